/- Slices of the call's own: append, reading, keeping. No program's text. -/
import Derived.Test.YtkokagbmmlngjaaBase
import Derived.Maps.AppendAt
import Derived.Laws.AppendOwnNone
namespace Go.Proofs.Ytkokagbmmlngjaa
open Go.RowKit
set_option maxRecDepth 100000

/-- The cells of a slice that is read: nil and empty ones alike. -/
def Cells (w : World) (A : Option Addr) (cs : List Value) : Prop :=
  cs = [] ∨ ∃ b o, A = some ⟨b, o, none⟩ ∧ ∀ i v, cs[i]? = some v → w.cell? ⟨b, o + i, none⟩ = some v
theorem Cells.nil (w : World) (A : Option Addr) : Cells w A [] := .inl rfl
theorem Cells.at_ {w : World} {A : Option Addr} {cs : List Value} (h : Cells w A cs) (hne : cs ≠ []) : ∃ b o, A = some ⟨b, o, none⟩ ∧ ∀ i v, cs[i]? = some v → w.cell? ⟨b, o + i, none⟩ = some v := h.resolve_left hne
/-- which block an address lies in -/
def InA (A : Option Addr) (k : Nat) : Prop := ∃ a, A = some a ∧ a.block = k
theorem Cells.keep {S : Nat → Prop} {w w' : World} {A : Option Addr} {cs : List Value} (h : Cells w A cs) (hk : Keeps S w w') (hs : ∀ k, InA A k → ¬ S k) : Cells w' A cs := by
  rcases h with h | ⟨b, o, hA, h⟩
  · exact .inl h
  · exact .inr ⟨b, o, hA, fun i v hv => hk.cell' (h i v hv) (show ¬ S b from hs b ⟨_, hA, rfl⟩)⟩
theorem Cells.same {w w' : World} {A : Option Addr} {cs : List Value} (h : Cells w A cs) (hk : Same w w') : Cells w' A cs := h.keep hk fun _ _ f => f
theorem Cells.lt {w : World} {A : Option Addr} {cs : List Value} (h : Cells w A cs) (hne : cs ≠ []) : ∀ k, InA A k → k < w.heap.size := by
  intro k ⟨a, ha, hk⟩
  obtain ⟨b, o, hA, hc⟩ := h.at_ hne
  rw [hA] at ha
  cases ha
  subst hk
  obtain ⟨v, hv⟩ : ∃ v, cs[0]? = some v := by
    cases cs with
    | nil => exact absurd rfl hne
    | cons x _ => exact ⟨x, rfl⟩
  exact World.block_lt_of_cell? w ⟨b, o + 0, none⟩ (hc 0 v hv)
/-- a part of what is read -/
theorem Cells.part {w : World} {A : Option Addr} {cs : List Value} (h : Cells w A cs) (j m : Nat) (b o : Nat) (hA : A = some ⟨b, o, none⟩) : Cells w (some ⟨b, o + j, none⟩) ((cs.drop j).take m) := by
  rcases h with h | ⟨b', o', hA', h⟩
  · subst h; left; simp
  · rw [hA] at hA'
    cases hA'
    refine .inr ⟨b, o + j, rfl, fun i v hv => ?_⟩
    rw [List.getElem?_take] at hv
    split at hv
    · rw [List.getElem?_drop] at hv
      rw [Nat.add_assoc]
      exact h _ _ hv
    · cases hv
theorem Cells.take {w : World} {A : Option Addr} {cs : List Value} (h : Cells w A cs) (m : Nat) : Cells w A (cs.take m) := by
  rcases h with h | ⟨b, o, hA, h⟩
  · subst h; left; simp
  · refine .inr ⟨b, o, hA, fun i v hv => h i v ?_⟩
    rw [List.getElem?_take] at hv
    split at hv
    · exact hv
    · cases hv

/-- A slice of n elements (each 'size' cells) of the call's own. -/
def Own (w : World) (base : Nat) (e : TypeId) (size : Nat) (A : Option Addr) (c n : Nat) (xs : List Value) : Prop := w.ownsRow base e size (.slice A n c) n xs

section
variable {w w' : World} {base : Nat} {e : TypeId} {size : Nat} {A : Option Addr} {c n : Nat} {xs : List Value}
theorem Own.none (w : World) (base : Nat) (e : TypeId) (size : Nat) : Own w base e size none 0 0 [] := World.ownsRow_nil w base e size
theorem Own.len (h : Own w base e size A c n xs) : xs.length = n * size := h.1
theorem Own.inA (h : Own w base e size A c n xs) {k : Nat} (hk : InA A k) : base ≤ k ∧ k < w.heap.size := by
  obtain ⟨a, rfl, rfl⟩ := hk
  exact World.ownsRow.lt h a.block rfl
theorem Own.keep {S : Nat → Prop} (h : Own w base e size A c n xs) (hk : Keeps S w w') (hs : ∀ k, InA A k → ¬ S k) : Own w' base e size A c n xs := by
  refine ⟨h.1, ?_⟩
  rcases h.2 with h2 | ⟨g, cap, cur, hv, hb, hg, rest⟩
  · exact .inl h2
  · refine .inr ⟨g, cap, cur, hv, hb, ?_, rest⟩
    rw [hk.block g (Array.getElem?_eq_some_iff.1 hg).1 (hs g ?_)]
    · exact hg
    · cases hv
      exact ⟨_, rfl, rfl⟩
theorem Own.same (h : Own w base e size A c n xs) (hk : Same w w') : Own w' base e size A c n xs := h.keep hk fun _ _ f => f
theorem Own.below (h : Own w base e size A c n xs) {B : Nat} (hB : B ≤ base) : Own w B e size A c n xs := by
  refine ⟨h.1, ?_⟩
  rcases h.2 with h2 | ⟨g, cap, cur, hv, hb, rest⟩
  · exact .inl h2
  · exact .inr ⟨g, cap, cur, hv, Nat.le_trans hB hb, rest⟩
theorem Own.cells (h : Own w base e size A c n xs) : Cells w A xs := by
  rcases h.2 with ⟨hv, h0⟩ | ⟨g, cap, cur, hv, hb, hg, h1, h2, h3, h4⟩
  · left
    have := h.1
    rw [h0] at this
    exact List.length_eq_zero_iff.1 (by simpa using this)
  · cases hv
    refine .inr ⟨g, 0, rfl, fun i v hi => ?_⟩
    rw [Nat.zero_add]
    have hlt := (List.getElem?_eq_some_iff.1 hi).1
    rw [← h4] at hi
    rw [List.getElem?_take] at hi
    split at hi
    · simp only [World.cell?, hg]
      simpa using hi
    · cases hi
/-- an own slice with an element has a block of its own -/
theorem Own.form (h : Own w base e size A c n xs) (hn : 0 < n) : ∃ g, A = some ⟨g, 0, .none⟩ ∧ base ≤ g ∧ g < w.heap.size ∧ n ≤ c := by
  rcases h.2 with ⟨hv, h0⟩ | ⟨g, cap, cur, hv, hb, hg, h1, h2, h3, h4⟩
  · omega
  · cases hv
    exact ⟨g, rfl, hb, (Array.getElem?_eq_some_iff.1 hg).1, h1⟩
theorem Own.maxLen (h : Own w base e size A c n xs) : n ≤ 9223372036854775807 := by
  rcases h.2 with ⟨hv, h0⟩ | ⟨g, cap, cur, hv, hb, hg, h1, h2, h3, h4⟩
  · omega
  · have : cap ≤ 9223372036854775807 := h2
    omega
/-- a store into it -/
theorem Own.store {g : Nat} (h : Own w base e size (some ⟨g, 0, .none⟩) c n xs) (j : Nat) (u : Value) :
    Own (w.setCell ⟨g, j, .none⟩ u) base e size (some ⟨g, 0, .none⟩) c n (xs.set j u) := (World.ownsRow.stored h j u).1
theorem Own.frozen {g : Nat} (h : Own w base e size (some ⟨g, 0, .none⟩) c n xs) (j : Nat) : w.frozen? ⟨g, j, .none⟩ = false := by
  rcases h.2 with ⟨hv, h0⟩ | ⟨g', cap, cur, hv, hb, hg, _⟩
  · cases hv
  · cases hv
    simp [World.frozen?, hg]
/-- a literal's box is a slice of the call's own -/
theorem Own.lit (w : World) (base : Nat) (e : TypeId) (size n : Nat) (xs : List Value) (hb : base ≤ w.heap.size) (hn : n ≤ 9223372036854775807) (hl : xs.length = n * size) :
    Own (w.alloc (.cells xs.toArray e)) base e size (some ⟨w.heap.size, 0, .none⟩) n n xs := by
  have := World.ownsRow_lit (base := base) (e := e) (size := size) w xs.toArray n hb hn (by simpa using hl)
  unfold Own
  simpa using this
end

/-- what the table says of an element's type -/
def Info (P : Program) (e : TypeId) (z : Value) (size bytes : Nat) : Prop := (P.info? e).map (fun i => (i.zero, i.size, i.bytes)) = some (some z, size, bytes)

section
variable {P : Program} {ops : Array Oper} {rest : List Oper} {o : Oper} {a : Act} {Q : Exit → Act → World → Prop}

/-- append(v, x): behind 'at_builtin'; the goal's world is 'W.alloc' of the variadic's box. -/
theorem append_one {W : World} (base : Nat) (hgd : o.guard = none) (s x : Operand) (t e : TypeId) (z : Value) (size bytes : Nat)
    (ho : o.op = .call { callee := .builtin .append, args := #[s, x], argTypes := #[t, t] })
    (ht : P.underlying t = some (.slice e)) (hinfo : Info P e z size bytes) (hz : z.cells.size = size) (hsz : 0 < size) (hby : 0 < bytes)
    (A : Option Addr) (c n : Nat) (xs y : List Value) (hs : a.eval s = .slice A n c) (hx : a.eval x = .slice (some ⟨W.heap.size, 0, none⟩) 1 1) (hy : y.length = size) (h1 : ∀ u ∈ y, u.oneCell' = true)
    (HO : Own W base e size A c n xs) (hbase : base ≤ W.heap.size) (hl : (n + 1) * bytes ≤ 140737488355328)
    (h : ∀ A1 c1 w1, Own w1 base e size A1 c1 (n + 1) (xs ++ y) → Keeps (InA A) W w1 → (∀ k, InA A1 k → InA A k ∨ W.heap.size ≤ k) → wpList P ops Q rest (a.put o.dst (.slice A1 (n + 1) c1)) w1) :
    wpList P ops Q (o :: rest) a (W.alloc (.cells y.toArray e)) := by
  obtain ⟨i0, hi, hzz⟩ := Option.map_eq_some_iff.1 hinfo
  simp only [Prod.mk.injEq] at hzz
  obtain ⟨hz0, hz1, hz2⟩ := hzz
  have hlen : n + 1 ≤ 140737488355328 := Nat.le_trans (Nat.le_mul_of_pos_right _ hby) hl
  refine wpList_append_own_at (W.alloc (.cells y.toArray e)) hgd s x t ho base e i0 z size bytes ht hi hz0 hz1 hz2 hz hsz (.slice A n c) n xs hs (World.ownsRow.alloc HO _) ⟨W.heap.size, 0, none⟩ 1 1 y hx (by simpa using hy)
    (fun j u hj => ?_) h1 (by simp only [Go.maxLen]; omega) hl (by simp; omega) ?_
  · have hB := Blk.new W e y
    have hadd : (⟨W.heap.size, 0, none⟩ : Addr).add j = ⟨W.heap.size, j, none⟩ := by unfold Addr.add; split <;> simp_all
    rw [hadd]
    exact hB.cell' hj
  · intro v1 w1 hown hg _ hat
    obtain ⟨A1, c1, rfl⟩ : ∃ A1 c1, v1 = .slice A1 (n + 1) c1 := by
      rcases hown.2 with ⟨rfl, h0⟩ | ⟨g, cap, cur, rfl, _⟩
      · omega
      · exact ⟨_, _, rfl⟩
    refine h A1 c1 w1 hown ?_ ?_
    · refine ((Keeps.refl _ W).alloc _).grown hg fun k hk => ?_
      left
      cases A with
      | none => simp [Value.ownBlock] at hk
      | some ad => exact ⟨ad, rfl, by simpa [Value.ownBlock] using hk⟩
    · rintro k ⟨ad, rfl, rfl⟩
      rcases hat with hat | hat
      · left
        cases A with
        | none => simp [Value.ownBlock] at hat
        | some ad' => exact ⟨ad', rfl, by simpa [Value.ownBlock] using hat.symm⟩
      · right
        simp [Value.ownBlock] at hat
        omega

/-- append(v, l...), l a slice that is read, nil let in. -/
theorem append_many {W : World} (base : Nat) (hgd : o.guard = none) (s x : Operand) (t e : TypeId) (z : Value) (size bytes : Nat)
    (ho : o.op = .call { callee := .builtin .append, args := #[s, x], argTypes := #[t, t] })
    (ht : P.underlying t = some (.slice e)) (hinfo : Info P e z size bytes) (hz : z.cells.size = size) (hsz : 0 < size) (hby : 0 < bytes)
    (A : Option Addr) (c n : Nat) (xs : List Value) (A' : Option Addr) (m c' : Nat) (ys : List Value) (hs : a.eval s = .slice A n c) (hx : a.eval x = .slice A' m c') (hy : ys.length = m * size) (h1 : ∀ u ∈ ys, u.oneCell' = true)
    (HO : Own W base e size A c n xs) (HC : Cells W A' ys) (hn' : A' = none → m = 0 ∧ c' = 0) (hsp : ∀ ad, A' = some ad → ad.spot = none) (hbase : base ≤ W.heap.size) (hl : (n + m) * bytes ≤ 140737488355328)
    (h : ∀ A1 c1 w1, Own w1 base e size A1 c1 (n + m) (xs ++ ys) → Keeps (InA A) W w1 → (∀ k, InA A1 k → InA A k ∨ W.heap.size ≤ k) → wpList P ops Q rest (a.put o.dst (.slice A1 (n + m) c1)) w1) :
    wpList P ops Q (o :: rest) a W := by
  obtain ⟨i0, hi, hzz⟩ := Option.map_eq_some_iff.1 hinfo
  simp only [Prod.mk.injEq] at hzz
  obtain ⟨hz0, hz1, hz2⟩ := hzz
  have hlen : n + m ≤ 140737488355328 := Nat.le_trans (Nat.le_mul_of_pos_right _ hby) hl
  cases A' with
  | none =>
    obtain ⟨rfl, rfl⟩ := hn' rfl
    have : ys = [] := List.length_eq_zero_iff.1 (by simpa using hy)
    subst this
    refine wpList_append_own_none hgd s x t ho base e i0 size ht hi (.slice A n c) n xs hs HO hx ?_
    have := h A c W (by simpa using HO) (Keeps.refl _ _) (fun k hk => .inl hk)
    simpa using this
  | some ad =>
    refine wpList_append_own_at W hgd s x t ho base e i0 z size bytes ht hi hz0 hz1 hz2 hz hsz (.slice A n c) n xs hs HO ad m c' ys hx hy
      (fun j u hj => ?_) h1 (by simp only [Go.maxLen]; omega) hl hbase ?_
    · rcases HC with HC | ⟨b, o', hA, HC⟩
      · subst HC; simp at hj
      · cases hA
        have hadd : (⟨b, o', none⟩ : Addr).add j = ⟨b, o' + j, none⟩ := by unfold Addr.add; split <;> simp_all
        rw [hadd]
        exact HC j u hj
    · intro v1 w1 hown hg hnone hat
      obtain ⟨A1, c1, rfl⟩ : ∃ A1 c1, v1 = .slice A1 (n + m) c1 := by
        rcases hown.2 with ⟨rfl, h0⟩ | ⟨g, cap, cur, rfl, _⟩
        · exact ⟨none, 0, by rw [h0]⟩
        · exact ⟨_, _, rfl⟩
      refine h A1 c1 w1 hown ?_ ?_
      · refine (Keeps.refl _ W).grown hg fun k hk => ?_
        left
        cases A with
        | none => simp [Value.ownBlock] at hk
        | some ad => exact ⟨ad, rfl, by simpa [Value.ownBlock] using hk⟩
      · rintro k ⟨ad, rfl, rfl⟩
        rcases hat with hat | hat
        · left
          cases A with
          | none => simp [Value.ownBlock] at hat
          | some ad' => exact ⟨ad', rfl, by simpa [Value.ownBlock] using hat.symm⟩
        · right
          simp [Value.ownBlock] at hat
          omega
end

end Go.Proofs.Ytkokagbmmlngjaa
