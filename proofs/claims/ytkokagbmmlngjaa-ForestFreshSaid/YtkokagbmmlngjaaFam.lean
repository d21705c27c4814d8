/- Families of slices that are marked and grown: what was told stands. No program's text. -/
import Derived.Test.YtkokagbmmlngjaaOwn2
namespace Go.Proofs.Ytkokagbmmlngjaa
open Go.RowKit

def Sl.vs (L : List Sl) : List Value := L.map Sl.v
theorem Sl.vs_len (L : List Sl) : (Sl.vs L).length = L.length := by simp [Sl.vs]
theorem Sl.vs_at (L : List Sl) (i : Nat) (h : i < L.length) : (Sl.vs L)[i]? = some (.slice L[i].A L[i].n L[i].c) := by simp [Sl.vs, Sl.v, h]
theorem Sl.vs_append (L M : List Sl) : Sl.vs (L ++ M) = Sl.vs L ++ Sl.vs M := by simp [Sl.vs]
theorem Sl.vs_one (L : List Sl) : ∀ u ∈ Sl.vs L, u.oneCell' = true := by
  intro u hu
  obtain ⟨x, _, rfl⟩ := List.mem_map.1 hu
  rfl

section
variable {w w' : World} {base : Nat} {e : TypeId}

/-- slices F that were told, and what they have grown to, H -/
structure Marks (w : World) (base base2 : Nat) (e : TypeId) (F H : List Sl) : Prop where
  len : H.length = F.length
  fam : Fam w base e 1 H
  old : ∀ t (h : t < F.length), Cells w F[t].A F[t].xs
  low : ∀ t (_ : t < F.length) k, InS F[t] k → base ≤ k ∧ k < base2
  apart : ∀ i j (_ : i < F.length) (_ : j < F.length), i ≠ j → ∀ k, InS F[i] k → ¬ InS F[j] k
  head : ∀ t (_ : t < F.length) a, F[t].A = some a → a.off = 0 ∧ a.spot = none
  near : ∀ t (_ : t < H.length) (_ : t < F.length) k, InS H[t] k → InS F[t] k ∨ base2 ≤ k
  pre : ∀ t (_ : t < H.length) (_ : t < F.length), F[t].xs <+: H[t].xs

theorem Own.head {size : Nat} {A : Option Addr} {c n : Nat} {xs : List Value} (h : Own w base e size A c n xs) : ∀ a, A = some a → a.off = 0 ∧ a.spot = Option.none := by
  intro a ha
  subst ha
  rcases h.2 with ⟨hv, _⟩ | ⟨g, cap, cur, hv, _⟩
  · cases hv
  · cases hv; exact ⟨rfl, rfl⟩

theorem Marks.start {F : List Sl} (h : Fam w base e 1 F) : Marks w base w.heap.size e F F :=
  ⟨rfl, h, fun t ht => Own.cells (h.own t ht), fun t ht k hk => Own.inA (h.own t ht) hk, h.apart, fun t ht a ha => Own.head (h.own t ht) a ha, fun t _ _ k hk => .inl hk, fun t _ _ => List.prefix_refl _⟩

theorem Marks.keep {S : Nat → Prop} {base2 : Nat} {F H : List Sl} (h : Marks w base base2 e F H) (hk : Keeps S w w') (hs : ∀ k, base ≤ k → k < w.heap.size → ¬ S k) (hb : base2 ≤ w.heap.size) : Marks w' base base2 e F H :=
  ⟨h.len, h.fam.keep hk fun k hF => hs k (h.fam.range hF).1 (h.fam.range hF).2, fun t ht => (h.old t ht).keep hk fun k hk' => hs k (h.low t ht k hk').1 (by have := (h.low t ht k hk').2; omega), h.low, h.apart, h.head, h.near, h.pre⟩
theorem Marks.same {base2 : Nat} {F H : List Sl} (h : Marks w base base2 e F H) (hk : Same w w') (hb : base2 ≤ w.heap.size) : Marks w' base base2 e F H := h.keep hk (fun _ _ _ f => f) hb
/-- what lies apart from all of them may be written -/
theorem Marks.far {S : Nat → Prop} {base2 : Nat} {F H : List Sl} (h : Marks w base base2 e F H) (hk : Keeps S w w') (h1 : ∀ k, S k → ¬ InF H k) (h2 : ∀ k, S k → ¬ InF F k) : Marks w' base base2 e F H :=
  ⟨h.len, h.fam.keep hk fun k hF hS => h1 k hS hF, fun t ht => (h.old t ht).keep hk fun k hk' hS => h2 k hS ⟨t, ht, hk'⟩, h.low, h.apart, h.head, h.near, h.pre⟩

/-- an append onto one of those that have grown -/
theorem Marks.grow {base2 : Nat} {F H : List Sl} (h : Marks w base base2 e F H) (hb : base2 ≤ w.heap.size) (i : Nat) (hi : i < H.length) (A1 : Option Addr) (c1 n1 : Nat) (y : List Value)
    (HO : Own w' base e 1 A1 c1 n1 (H[i].xs ++ y)) (hk : Keeps (InA H[i].A) w w') (hd : (A1 = H[i].A ∧ c1 = H[i].c) ∨ (Same w w' ∧ ∃ g, A1 = some ⟨g, 0, none⟩ ∧ w.heap.size ≤ g)) :
    Marks w' base base2 e F (H.set i ⟨A1, c1, n1, H[i].xs ++ y⟩) := by
  have hiF : i < F.length := by rw [← h.len]; exact hi
  have hnb := new_block hd
  refine ⟨by rw [List.length_set]; exact h.len, h.fam.setAt hi hk (fun k hk' => .inl hk') HO hnb, fun t ht => ?_, h.low, h.apart, h.head, fun t ht1 ht2 k hk' => ?_, fun t ht1 ht2 => ?_⟩
  · by_cases e1 : t = i
    · subst e1
      rcases hd with ⟨hA, _⟩ | ⟨hs, _⟩
      · subst hA
        by_cases hemp : F[t].xs = []
        · rw [hemp]; exact Cells.nil _ _
        · obtain ⟨b, o, hFA, _⟩ := (h.old t ht).at_ hemp
          have h0 := (h.head t ht _ hFA).1
          have h0' : o = 0 := h0
          subst h0'
          by_cases hin : InA H[t].A b
          · obtain ⟨a, ha, hab⟩ := hin
            have h2 := Own.head (h.fam.own t hi) a ha
            have h3 : a = ⟨b, 0, none⟩ := by
              obtain ⟨ab, ao, asp⟩ := a
              have e1 : ao = 0 := h2.1
              have e2 : asp = none := h2.2
              have e3 : ab = b := hab
              subst e1 e2 e3; rfl
            rw [hFA, ← h3, ← ha]
            obtain ⟨r, hr⟩ := h.pre t hi ht
            have h4 := HO.cells
            rw [← hr, List.append_assoc] at h4
            have := h4.take F[t].xs.length
            rw [List.take_left] at this
            exact this
          · refine (h.old t ht).keep hk fun k hk' hin' => ?_
            obtain ⟨a, ha, hab⟩ := hk'
            rw [hFA] at ha
            cases ha
            have e3 : b = k := hab
            subst e3
            exact hin hin'
      · exact (h.old t ht).same hs
    · refine (h.old t ht).keep hk fun k hk' hin => ?_
      rcases h.near i hi hiF k hin with h1 | h1
      · exact h.apart t i ht hiF e1 k hk' h1
      · have := (h.low t ht k hk').2; omega
  · have ht1' : t < H.length := by simpa using ht1
    rw [List.getElem_set] at hk'
    split at hk'
    · rename_i e1
      subst e1
      rcases hnb k hk' with h1 | h1
      · exact h.near i hi ht2 k h1
      · exact .inr (by omega)
    · exact h.near t ht1' ht2 k hk'
  · have ht1' : t < H.length := by simpa using ht1
    rw [List.getElem_set]
    split
    · rename_i e1
      subst e1
      exact (h.pre i hi ht2).trans (List.prefix_append _ _)
    · exact h.pre t ht1' ht2
end

theorem InF.push {L : List Sl} {s : Sl} {k : Nat} (h : InF (L ++ [s]) k) : InF L k ∨ InS s k := by
  obtain ⟨i, hi, hk⟩ := h
  rw [List.length_append, List.length_singleton] at hi
  rcases Nat.lt_or_ge i L.length with h' | h'
  · left
    rw [List.getElem_append_left h'] at hk
    exact ⟨i, h', hk⟩
  · right
    have : i = L.length := by omega
    subst this
    simpa using hk
/-- a mark stored into one of them -/
theorem Fam.mark {w : World} {base : Nat} {e : TypeId} {L : List Sl} (h : Fam w base e 1 L) (i : Nat) (hi : i < L.length) (g : Nat) (hg : L[i].A = some ⟨g, 0, none⟩) (j : Nat) (u : Value) :
    Fam (w.setCell ⟨g, j, none⟩ u) base e 1 (L.set i ⟨L[i].A, L[i].c, L[i].n, L[i].xs.set j u⟩) := by
  have hO := h.own i hi
  unfold Sl.Is at hO
  have hin : ∀ k, k = g → InS L[i] k := fun k hk => ⟨_, hg, hk.symm⟩
  refine h.setAt hi ((Keeps.refl (· = g) w).setCell (p := ⟨g, j, none⟩) (.inl rfl) u) (fun k hk => .inl (hin k hk)) ?_ (fun k hk => .inl hk)
  show Own _ base e 1 L[i].A L[i].c L[i].n _
  rw [hg] at hO ⊢
  exact hO.store j u
theorem Fam.mark_set {w : World} {base : Nat} {e : TypeId} {L : List Sl} {i : Nat} {A : Option Addr} {c n : Nat} {xs : List Value} (h : Fam w base e 1 (L.set i ⟨A, c, n, xs⟩)) (hi : i < L.length) (g : Nat) (hg : A = some ⟨g, 0, none⟩) (j : Nat) (u : Value) :
    Fam (w.setCell ⟨g, j, none⟩ u) base e 1 (L.set i ⟨A, c, n, xs.set j u⟩) := by
  have := h.mark i (by simpa using hi) g (by rw [List.getElem_set_self]; exact hg) j u
  simpa [List.getElem_set_self, List.set_set] using this
theorem marks_set {m : Value} {xs : List Value} {j : Nat} (h : ∀ u, u < j → xs[u]? = some m) (hj : j < xs.length) : ∀ u, u < j + 1 → (xs.set j m)[u]? = some m := by
  intro u hu
  rw [List.getElem?_set]
  split
  · rfl
  · exact h u (by omega)
theorem vs_set (L : List Sl) (i : Nat) (hi : i < L.length) (xs : List Value) : Sl.vs (L.set i ⟨L[i].A, L[i].c, L[i].n, xs⟩) = Sl.vs L := by
  unfold Sl.vs
  rw [List.map_set]
  apply List.ext_getElem
  · simp
  · intro k h1 h2
    rw [List.getElem_set]
    split
    · rename_i e; subst e; simp [Sl.v]
    · rfl
theorem vs_get {L M : List Sl} (h : Sl.vs L = Sl.vs M) (i : Nat) (h1 : i < L.length) (h2 : i < M.length) : L[i].A = M[i].A ∧ L[i].n = M[i].n ∧ L[i].c = M[i].c := by
  have e1 := Sl.vs_at L i h1
  have e2 := Sl.vs_at M i h2
  rw [h, e2] at e1
  simp only [Option.some.injEq, Value.slice.injEq] at e1
  exact ⟨e1.1.symm, e1.2.1.symm, e1.2.2.symm⟩
theorem vs_InF {L M : List Sl} (h : Sl.vs L = Sl.vs M) (k : Nat) : InF L k → InF M k := by
  rintro ⟨i, hi, hk⟩
  have hl : L.length = M.length := by rw [← Sl.vs_len L, h, Sl.vs_len]
  have hi' : i < M.length := by omega
  refine ⟨i, hi', ?_⟩
  unfold InS at *
  rw [← (vs_get h i hi hi').1]; exact hk
theorem all_marks {m : Value} {xs : List Value} {n : Nat} (hl : xs.length = n) (h : ∀ u, u < n → xs[u]? = some m) : xs = List.replicate n m := by
  apply List.ext_getElem?
  intro u
  rw [List.getElem?_replicate]
  split
  · exact h u (by assumption)
  · rw [List.getElem?_eq_none (by omega)]
theorem InF.set {L : List Sl} {i : Nat} {s : Sl} {k : Nat} (h : InF (L.set i s) k) : InF L k ∨ InS s k := by
  obtain ⟨j, hj, hk⟩ := h
  rw [List.getElem_set] at hk
  split at hk
  · exact .inr hk
  · exact .inl ⟨j, by simpa using hj, hk⟩
theorem take_set_succ (G : List Sl) (t : Nat) (s : Sl) (h : t < G.length) : (G.set t s).take (t + 1) = G.take t ++ [s] := by
  rw [List.take_succ_eq_append_getElem (by simpa using h), List.getElem_set_self, List.take_set_of_le (Nat.le_refl _)]
theorem set_marks (m : Value) (xs : List Value) (j : Nat) (hj : j < xs.length) : (List.replicate j m ++ xs.drop j).set j m = List.replicate (j + 1) m ++ xs.drop (j + 1) := by
  have e : xs.drop j = xs[j] :: xs.drop (j + 1) := List.drop_eq_getElem_cons hj
  rw [e, List.replicate_succ', List.append_assoc, List.set_append_right _ _ (by simp), List.length_replicate, Nat.sub_self]
  rfl
end Go.Proofs.Ytkokagbmmlngjaa
