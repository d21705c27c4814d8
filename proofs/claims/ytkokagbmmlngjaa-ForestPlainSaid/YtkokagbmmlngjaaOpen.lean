/- Slices that came in, as lists. No program's text. -/
import Derived.Test.YtkokagbmmlngjaaHash
import Derived.SliceStrings
import Derived.DataShut
namespace Go.Proofs.Ytkokagbmmlngjaa
open Go.RowKit

/-- A slice of texts that came in. -/
structure StrsIn (w : World) (A : Option Addr) (n c : Nat) (l : List ByteArray) : Prop where
  len : l.length = n
  cells : Cells w A (strs l)
  le : n ≤ c
  max : c ≤ 9223372036854775807
  nil : A = none → n = 0 ∧ c = 0
  size : ∀ x ∈ l, x.size ≤ 9223372036854775807

theorem StrsIn.nil_ (w : World) : StrsIn w none 0 0 [] := ⟨rfl, .inl rfl, Nat.le_refl _, by decide, fun _ => ⟨rfl, rfl⟩, fun x hx => by simp at hx⟩

theorem cells_of_add {w : World} {x : Addr} {cs : List Value} (h : ∀ i v, cs[i]? = some v → w.cell? (x.add i) = some v) : Cells w (some x) cs := by
  cases cs with
  | nil => exact .inl rfl
  | cons y r =>
    have h0 := h 0 y rfl
    obtain ⟨b, o, s⟩ := x
    have hs : s = none := by
      have e : (⟨b, o, s⟩ : Addr).add 0 = ⟨b, o, s⟩ := rfl
      rw [e] at h0
      simp only [World.cell?] at h0
      split at h0
      · cases s with
        | none => rfl
        | some t => simp at h0
      · cases h0
    subst hs
    refine .inr ⟨b, o, rfl, fun i v hv => ?_⟩
    have := h i v hv
    have e : (⟨b, o, none⟩ : Addr).add i = ⟨b, o + i, none⟩ := by
      unfold Addr.add
      split
      · rename_i hi; subst hi; rfl
      · rfl
    rw [e] at this
    exact this

/-- a quiet call in a region that draws its order -/
theorem quiet_ww {P : Program} {f : FuncId} {args : Array Value} {w : World} {n : Nat} {v : Value}
    (h : Calls P f args (w.drewN n) fun e w' => e = .returned v ∧ w.drewN n = w') : Calls P f args (w.drewN n) fun e w'' => e = .returned v ∧ ∃ m, w'' = w.drewN m :=
  h.mono fun _ _ ⟨he, hm⟩ => ⟨he, n, hm.symm⟩
theorem strs_one (l : List ByteArray) : ∀ u ∈ strs l, u.oneCell' = true := by
  intro u hu
  obtain ⟨x, _, rfl⟩ := List.mem_map.1 hu
  rfl

theorem StrsIn.of {w : World} {x : Addr} {len cap : Nat} {zs : List ByteArray} (hl : len ≤ cap) (hm : cap ≤ maxLen) (hz : zs.length = cap) (hc : ∀ i, i < zs.length → w.cell? (x.add i) = some (.string (zs.getD i ByteArray.empty)))
    (hs : ∀ s ∈ zs, s.size ≤ maxLen) : ∃ l, StrsIn w (some x) len cap l := by
  refine ⟨zs.take len, by simp; omega, ?_, hl, hm, fun h => (by cases h), fun y hy => hs y (List.mem_of_mem_take hy)⟩
  refine cells_of_add fun i v hv => ?_
  unfold strs at hv
  rw [List.getElem?_map, List.getElem?_take] at hv
  split at hv
  · rename_i hi
    have hlt : i < zs.length := by omega
    rw [hc i hlt, List.getD_eq_getElem?_getD]
    rw [List.getElem?_eq_getElem hlt] at hv ⊢
    simpa using hv
  · cases hv
theorem StrsIn.keep {w w' : World} {A : Option Addr} {len cap : Nat} {l : List ByteArray} (h : StrsIn w A len cap l) (hk : Same w w') : StrsIn w' A len cap l :=
  ⟨h.len, h.cells.same hk, h.le, h.max, h.nil, h.size⟩

def u64c (l : List Nat) : List Value := l.map fun x : Nat => .int .u64 (x : Int)
/-- A slice of numbers that came in. -/
structure U64sIn (w : World) (A : Option Addr) (n c : Nat) (l : List Nat) : Prop where
  len : l.length = n
  cells : Cells w A (u64c l)
  le : n ≤ c
  max : c ≤ 9223372036854775807
  nil : A = none → n = 0 ∧ c = 0
  size : ∀ x ∈ l, x < 18446744073709551616
theorem U64sIn.nil_ (w : World) : U64sIn w none 0 0 [] := ⟨rfl, .inl rfl, Nat.le_refl _, by decide, fun _ => ⟨rfl, rfl⟩, fun x hx => by simp at hx⟩
theorem wf_u64 {n : Int} (h : (Lit.int .u64 n).wf = true) : 0 ≤ n ∧ n < 18446744073709551616 := by
  have := (Lit.wf_int_iff _ _).1 h
  simp only [IntKind.min, IntKind.max, IntKind.signed, IntKind.bits] at this
  simp at this
  omega
theorem wf_i64 {n : Int} (h : (Lit.int .i64 n).wf = true) : -9223372036854775808 ≤ n ∧ n < 9223372036854775808 := by
  have := (Lit.wf_int_iff _ _).1 h
  simp only [IntKind.min, IntKind.max, IntKind.signed, IntKind.bits] at this
  simp at this
  omega
theorem wf_u8 {n : Int} (h : (Lit.int .u8 n).wf = true) : 0 ≤ n ∧ n ≤ 255 := by
  have := (Lit.wf_int_iff _ _).1 h
  simp only [IntKind.min, IntKind.max, IntKind.signed, IntKind.bits] at this
  simp at this
  omega
theorem U64sIn.of {w : World} {x : Addr} {len cap : Nat} {zs : List Int} (hl : len ≤ cap) (hm : cap ≤ maxLen) (hz : zs.length = cap) (hc : ∀ i, i < zs.length → w.cell? (x.add i) = some (.int .u64 (zs.getD i 0)))
    (hs : ∀ n ∈ zs, (Lit.int .u64 n).wf = true) : ∃ l, U64sIn w (some x) len cap l := by
  refine ⟨(zs.take len).map Int.toNat, by simp; omega, ?_, hl, hm, fun h => (by cases h), fun y hy => ?_⟩
  · refine cells_of_add fun i v hv => ?_
    unfold u64c at hv
    rw [List.map_map, List.getElem?_map, List.getElem?_take] at hv
    split at hv
    · rename_i hi
      have hlt : i < zs.length := by omega
      rw [hc i hlt, List.getD_eq_getElem?_getD]
      rw [List.getElem?_eq_getElem hlt] at hv ⊢
      have hw := wf_u64 (hs zs[i] (List.getElem_mem hlt))
      simp only [Option.map_some, Option.some.injEq, Function.comp] at hv
      rw [← hv]
      simp only [Option.getD_some]
      rw [Int.toNat_of_nonneg hw.1]
    · cases hv
  · obtain ⟨z, hz', rfl⟩ := List.mem_map.1 hy
    have hw := wf_u64 (hs z (List.mem_of_mem_take hz'))
    omega
theorem U64sIn.keep {w w' : World} {A : Option Addr} {len cap : Nat} {l : List Nat} (h : U64sIn w A len cap l) (hk : Same w w') : U64sIn w' A len cap l :=
  ⟨h.len, h.cells.same hk, h.le, h.max, h.nil, h.size⟩
end Go.Proofs.Ytkokagbmmlngjaa
