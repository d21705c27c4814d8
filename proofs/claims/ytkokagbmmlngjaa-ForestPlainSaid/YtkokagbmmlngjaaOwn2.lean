/- append onto a slice of the call's own: what the old slice reads behind it; families of slices. No program's text. -/
import Derived.Test.YtkokagbmmlngjaaOwn
namespace Go.Proofs.Ytkokagbmmlngjaa
open Go.RowKit
set_option maxRecDepth 100000

theorem run_append_two {P : Program} {w : World} (base : Nat) (t ty e : TypeId) (z : Value) (size bytes : Nat) (ht : P.underlying t = some (.slice e)) (hinfo : Info P e z size bytes)
    (hzs : z.cells.size = size) (hsz : 0 < size) (A : Option Addr) (c n : Nat) (xs : List Value) (HO : Own w base e size A c n xs)
    (a : Addr) (m c' : Nat) (news : List Value) (hl : news.length = m * size) (hnews : ∀ j u, news[j]? = some u → w.cell? (a.add j) = some u) (h1 : ∀ u ∈ news, u.oneCell' = true)
    (h63 : n + m ≤ maxLen) (hbytes : (n + m) * bytes ≤ 140737488355328) (hbase : base ≤ w.heap.size) :
    ∃ A1 c1 w1, (Builtin.append_ #[t, t] ty #[.slice A n c, .slice (some a) m c']).run P w = .ok (.slice A1 (n + m) c1) w1 ∧ Own w1 base e size A1 c1 (n + m) (xs ++ news) ∧
      ((A1 = A ∧ c1 = c ∧ Keeps (InA A) w w1) ∨ (A1 = some ⟨w.heap.size, 0, none⟩ ∧ Same w w1)) := by
  obtain ⟨i, hi, hzz⟩ := Option.map_eq_some_iff.1 hinfo
  simp only [Prod.mk.injEq] at hzz
  obtain ⟨hz, hsize, hby⟩ := hzz
  subst hsize
  subst hby
  have hsmall : n + m ≤ 9223372036854775807 := by simp only [Go.maxLen] at h63; omega
  have hlen : (xs ++ news).length = (n + m) * i.size := by rw [List.length_append, HO.1, hl, Nat.add_mul]
  have fresh : ∀ old, old < n + m → Own (w.drew.alloc (.cells (xs.toArray ++ news.toArray ++ Builtin.zeroCells z.cells (grownCap w (n + m) old e - (n + m))) e)) base e i.size (some ⟨w.heap.size, 0, none⟩) (grownCap w (n + m) old e) (n + m) (xs ++ news) := by
    intro old ho
    have hge := grownCap_ge w (n + m) old e
    refine ⟨hlen, .inr ⟨w.heap.size, _, _, rfl, hbase, heap_alloc_new w.drew _, hge, grownCap_le_maxLen w (n + m) old e h63, ?_, ?_⟩⟩
    · simp only [Array.size_append, List.size_toArray, size_zeroCells, hzs, HO.1, hl, ← Nat.add_mul]
      congr 1
      omega
    · simp only [Array.toList_append, List.append_assoc]
      rw [← List.append_assoc, ← hlen]
      exact List.take_left
  have same : ∀ o : Obj, Same w (w.drew.alloc o) := fun o => (Keeps.refl (fun _ => False) w).drew.alloc o
  rcases HO.2 with ⟨hv, rfl⟩ | ⟨g, cap, cur, hv, hbg, hg, hnc, hcm, hcs, htake⟩
  · cases hv
    have hx : xs = [] := List.eq_nil_of_length_eq_zero (by simpa using HO.1)
    subst hx
    by_cases hm : m = 0
    · subst hm
      have hn : news = [] := List.eq_nil_of_length_eq_zero (by simpa using hl)
      subst hn
      refine ⟨none, 0, w, ?_, HO, .inl ⟨rfl, rfl, Keeps.refl _ _⟩⟩
      simp [Builtin.append_, run_underlying ht, sizeOf, typeInfo, hi, Builtin.lenOf, Builtin.firstCells, loadCells, loadCellsFrom]
    · have hr := run_append_nil (P := P) w t ty e i z ht hi hz a m c' news hl hnews (by omega) (by omega) (by have hb := hbytes; simp only [Nat.zero_add] at hb; omega)
      have hf := fresh 0 (by omega)
      simp only [Nat.zero_add, List.nil_append, Array.empty_append] at hf ⊢
      exact ⟨_, _, _, hr, hf, .inr ⟨rfl, same _⟩⟩
  · cases hv
    by_cases hroom : n + m ≤ c
    · have hfit : n * i.size + news.length ≤ cur.size := by rw [hl, hcs, ← Nat.add_mul]; exact Nat.mul_le_mul_right _ hroom
      have hr := run_append_room (P := P) w t ty e i ht hi g n c cur hg a m c' news hl hnews h1 hroom hfit
      refine ⟨_, _, _, hr, ⟨hlen, .inr ⟨g, c, _, rfl, hbg, setRow_heap w g cur _ e _ hg, hroom, hcm, ?_, ?_⟩⟩, .inl ⟨rfl, rfl, ?_⟩⟩
      · simp only [List.size_toArray, List.length_append, List.length_take, List.length_drop, Array.length_toList]
        omega
      · rw [htake, ← hlen]
        exact List.take_left
      · exact (Keeps.refl _ w).setRow (.inl ⟨_, rfl, rfl⟩) _
    · have holds : ∀ j u, xs[j]? = some u → w.cell? ((⟨g, 0, none⟩ : Addr).add j) = some u := World.ownsRow.cells HO (g := g) rfl
      have hr := run_append_grow (P := P) w t ty e i z ht hi hz ⟨g, 0, none⟩ n c xs HO.1 holds a m c' news hl hnews (by omega) (by omega) (growslice_fits (by omega) hbytes)
      exact ⟨_, _, _, hr, fresh c (by omega), .inr ⟨rfl, same _⟩⟩

section
variable {P : Program} {ops : Array Oper} {rest : List Oper} {o : Oper} {a : Act} {Q : Exit → Act → World → Prop}

theorem wpList_append_two {w : World} (hgd : o.guard = none) (s x : Operand) (t : TypeId)
    (ho : o.op = .call { callee := .builtin .append, args := #[s, x], argTypes := #[t, t] })
    (base : Nat) (e : TypeId) (z : Value) (size bytes : Nat) (ht : P.underlying t = some (.slice e)) (hinfo : Info P e z size bytes)
    (hzs : z.cells.size = size) (hsz : 0 < size) (A : Option Addr) (c n : Nat) (xs : List Value) (hs : a.eval s = .slice A n c) (HO : Own w base e size A c n xs)
    (ad : Addr) (m c' : Nat) (news : List Value) (hx : a.eval x = .slice (some ad) m c') (hl : news.length = m * size) (hnews : ∀ j u, news[j]? = some u → w.cell? (ad.add j) = some u) (h1 : ∀ u ∈ news, u.oneCell' = true)
    (h63 : n + m ≤ maxLen) (hbytes : (n + m) * bytes ≤ 140737488355328) (hbase : base ≤ w.heap.size)
    (h : ∀ A1 c1 w1, Own w1 base e size A1 c1 (n + m) (xs ++ news) → ((A1 = A ∧ c1 = c ∧ Keeps (InA A) w w1) ∨ (A1 = some ⟨w.heap.size, 0, none⟩ ∧ Same w w1)) → wpList P ops Q rest (a.put o.dst (.slice A1 (n + m) c1)) w1) :
    wpList P ops Q (o :: rest) a w := by
  refine wpList_plain hgd fun K hK => ?_
  obtain ⟨A1, c1, w1, hr, h2, h3⟩ := run_append_two (P := P) (w := w) base t o.type e z size bytes ht hinfo hzs hsz A c n xs HO ad m c' news hl hnews h1 h63 hbytes hbase
  unfold Oper.wp execOp
  simp only [ho, resolve, invoke, builtin, Sem.run_bind, Sem.run_pure, Result.andThen_ok, List.map_toArray, List.map_cons, List.map_nil, hs, hx, hr]
  exact hK _ _ (h A1 c1 w1 h2 h3)

/-- append(v, x) behind 'at_builtin': what the old slice reads stays. -/
theorem append_one2 {W : World} (base : Nat) (hgd : o.guard = none) (s x : Operand) (t e : TypeId) (z : Value) (size bytes : Nat)
    (ho : o.op = .call { callee := .builtin .append, args := #[s, x], argTypes := #[t, t] })
    (ht : P.underlying t = some (.slice e)) (hinfo : Info P e z size bytes) (hz : z.cells.size = size) (hsz : 0 < size) (hby : 0 < bytes)
    (A : Option Addr) (c n : Nat) (xs y : List Value) (hs : a.eval s = .slice A n c) (hx : a.eval x = .slice (some ⟨W.heap.size, 0, none⟩) 1 1) (hy : y.length = size) (h1 : ∀ u ∈ y, u.oneCell' = true)
    (HO : Own W base e size A c n xs) (hbase : base ≤ W.heap.size) (hl : (n + 1) * bytes ≤ 140737488355328)
    (h : ∀ A1 c1 w1, Own w1 base e size A1 c1 (n + 1) (xs ++ y) → Keeps (InA A) W w1 → ((A1 = A ∧ c1 = c) ∨ (Same W w1 ∧ ∃ g, A1 = some ⟨g, 0, none⟩ ∧ W.heap.size ≤ g)) → wpList P ops Q rest (a.put o.dst (.slice A1 (n + 1) c1)) w1) :
    wpList P ops Q (o :: rest) a (W.alloc (.cells y.toArray e)) := by
  have hlen : n + 1 ≤ 140737488355328 := Nat.le_trans (Nat.le_mul_of_pos_right _ hby) hl
  have hS : ∀ S, Keeps S W (W.alloc (.cells y.toArray e)) := fun S => (Keeps.refl S W).alloc _
  refine wpList_append_two (w := W.alloc (.cells y.toArray e)) hgd s x t ho base e z size bytes ht hinfo hz hsz A c n xs hs (HO.same (hS _)) ⟨W.heap.size, 0, none⟩ 1 1 y hx (by simpa using hy)
    (fun j u hj => ?_) h1 (by simp only [Go.maxLen]; omega) hl (by simp; omega) ?_
  · have hB := Blk.new W e y
    have hadd : (⟨W.heap.size, 0, none⟩ : Addr).add j = ⟨W.heap.size, j, none⟩ := by unfold Addr.add; split <;> simp_all
    rw [hadd]
    exact hB.cell' hj
  · intro A1 c1 w1 hO hd
    refine h A1 c1 w1 hO ?_ ?_
    · rcases hd with ⟨_, _, hk⟩ | ⟨_, hk⟩
      · exact (hS _).trans hk
      · exact (hS _).trans (hk.mono fun _ _ f => f.elim)
    · rcases hd with ⟨h2, h3, _⟩ | ⟨h2, hk⟩
      · exact .inl ⟨h2, h3⟩
      · exact .inr ⟨(hS _).trans hk, _, h2, by simp⟩

/-- append(v, l...), l a slice that is read, nil let in. -/
theorem append_many2 {W : World} (base : Nat) (hgd : o.guard = none) (s x : Operand) (t e : TypeId) (z : Value) (size bytes : Nat)
    (ho : o.op = .call { callee := .builtin .append, args := #[s, x], argTypes := #[t, t] })
    (ht : P.underlying t = some (.slice e)) (hinfo : Info P e z size bytes) (hz : z.cells.size = size) (hsz : 0 < size) (hby : 0 < bytes)
    (A : Option Addr) (c n : Nat) (xs : List Value) (A' : Option Addr) (m c' : Nat) (ys : List Value) (hs : a.eval s = .slice A n c) (hx : a.eval x = .slice A' m c') (hy : ys.length = m * size) (h1 : ∀ u ∈ ys, u.oneCell' = true)
    (HO : Own W base e size A c n xs) (HC : Cells W A' ys) (hn' : A' = none → m = 0 ∧ c' = 0) (hbase : base ≤ W.heap.size) (hl : (n + m) * bytes ≤ 140737488355328)
    (h : ∀ A1 c1 w1, Own w1 base e size A1 c1 (n + m) (xs ++ ys) → Keeps (InA A) W w1 → ((A1 = A ∧ c1 = c) ∨ (Same W w1 ∧ ∃ g, A1 = some ⟨g, 0, none⟩ ∧ W.heap.size ≤ g)) → wpList P ops Q rest (a.put o.dst (.slice A1 (n + m) c1)) w1) :
    wpList P ops Q (o :: rest) a W := by
  have hlen : n + m ≤ 140737488355328 := Nat.le_trans (Nat.le_mul_of_pos_right _ hby) hl
  cases A' with
  | none =>
    obtain ⟨rfl, rfl⟩ := hn' rfl
    have : ys = [] := List.length_eq_zero_iff.1 (by simpa using hy)
    subst this
    obtain ⟨i0, hi, hzz⟩ := Option.map_eq_some_iff.1 hinfo
    refine wpList_append_own_none hgd s x t ho base e i0 size ht hi (.slice A n c) n xs hs HO hx ?_
    have := h A c W (by simpa using HO) (Keeps.refl _ _) (.inl ⟨rfl, rfl⟩)
    simpa using this
  | some ad =>
    refine wpList_append_two hgd s x t ho base e z size bytes ht hinfo hz hsz A c n xs hs HO ad m c' ys hx hy
      (fun j u hj => ?_) h1 (by simp only [Go.maxLen]; omega) hl hbase ?_
    · rcases HC with HC | ⟨b, o', hA, HC⟩
      · subst HC; simp at hj
      · cases hA
        have hadd : (⟨b, o', none⟩ : Addr).add j = ⟨b, o' + j, none⟩ := by unfold Addr.add; split <;> simp_all
        rw [hadd]
        exact HC j u hj
    · intro A1 c1 w1 hO hd
      refine h A1 c1 w1 hO ?_ ?_
      · rcases hd with ⟨_, _, hk⟩ | ⟨_, hk⟩
        · exact hk
        · exact hk.mono fun _ _ f => f.elim
      · rcases hd with ⟨h2, h3, _⟩ | ⟨h2, hk⟩
        · exact .inl ⟨h2, h3⟩
        · exact .inr ⟨hk, _, h2, Nat.le_refl _⟩
end

/-- what an old slice reads is still read behind an append onto it -/
theorem old_cells {W w1 : World} {base : Nat} {e : TypeId} {size : Nat} {A A1 : Option Addr} {c c1 n m : Nat} {xs ys : List Value} (HO : Own W base e size A c n xs) (H1 : Own w1 base e size A1 c1 (n + m) (xs ++ ys))
    (hd : (A1 = A ∧ c1 = c) ∨ (Same W w1 ∧ ∃ g, A1 = some ⟨g, 0, none⟩ ∧ W.heap.size ≤ g)) : Cells w1 A xs := by
  rcases hd with ⟨rfl, _⟩ | ⟨hk, _⟩
  · have := H1.cells.take xs.length
    rw [List.take_left] at this
    exact this
  · exact HO.cells.same hk
/-- which block the slice behind an append lies in -/
theorem new_block {W : World} {A A1 : Option Addr} {c c1 : Nat} {q : Prop} (hd : (A1 = A ∧ c1 = c) ∨ (q ∧ ∃ g, A1 = some ⟨g, 0, none⟩ ∧ W.heap.size ≤ g)) : ∀ k, InA A1 k → InA A k ∨ W.heap.size ≤ k := by
  rintro k ⟨ad, hA, rfl⟩
  rcases hd with ⟨rfl, _⟩ | ⟨_, g, h2, hg⟩
  · exact .inl ⟨ad, hA, rfl⟩
  · rw [h2] at hA; cases hA; exact .inr hg

/-- A slice as a value. -/
structure Sl where
  A : Option Addr
  c : Nat
  n : Nat
  xs : List Value
def Sl.v (s : Sl) : Value := .slice s.A s.n s.c
def Sl.Is (s : Sl) (w : World) (base : Nat) (e : TypeId) (size : Nat) : Prop := Own w base e size s.A s.c s.n s.xs
def InS (s : Sl) (k : Nat) : Prop := InA s.A k
/-- A list of slices of the call's own, each in a block of its own. -/
structure Fam (w : World) (base : Nat) (e : TypeId) (size : Nat) (L : List Sl) : Prop where
  own : ∀ i (h : i < L.length), L[i].Is w base e size
  apart : ∀ i j (hi : i < L.length) (hj : j < L.length), i ≠ j → ∀ k, InS L[i] k → ¬ InS L[j] k
def InF (L : List Sl) (k : Nat) : Prop := ∃ i, ∃ h : i < L.length, InS L[i] k

section
variable {w w' : World} {base : Nat} {e : TypeId} {size : Nat} {L : List Sl}
theorem Fam.nil (w : World) (base : Nat) (e : TypeId) (size : Nat) : Fam w base e size [] := ⟨fun i h => by simp at h, fun i j h => by simp at h⟩
theorem Fam.keep {S : Nat → Prop} (h : Fam w base e size L) (hk : Keeps S w w') (hs : ∀ k, InF L k → ¬ S k) : Fam w' base e size L :=
  ⟨fun i hi => Own.keep (h.own i hi) hk fun k hk' => hs k ⟨i, hi, hk'⟩, h.apart⟩
theorem Fam.same (h : Fam w base e size L) (hk : Same w w') : Fam w' base e size L := h.keep hk fun _ _ f => f
theorem Fam.range (h : Fam w base e size L) {k : Nat} (hk : InF L k) : base ≤ k ∧ k < w.heap.size := by
  obtain ⟨i, hi, hk⟩ := hk
  exact Own.inA (h.own i hi) hk
theorem Fam.push {s : Sl} (h : Fam w base e size L) (hs : s.Is w base e size) (hn : ∀ k, InS s k → ¬ InF L k) : Fam w base e size (L ++ [s]) := by
  have hget : ∀ i (hi : i < (L ++ [s]).length), (∃ h' : i < L.length, (L ++ [s])[i] = L[i]) ∨ (i = L.length ∧ (L ++ [s])[i] = s) := by
    intro i hi
    rw [List.length_append, List.length_singleton] at hi
    rcases Nat.lt_or_ge i L.length with h' | h'
    · exact .inl ⟨h', List.getElem_append_left h'⟩
    · have : i = L.length := by omega
      subst this
      exact .inr ⟨rfl, by simp⟩
  refine ⟨fun i hi => ?_, fun i j hi hj hne k hk hk' => ?_⟩
  · rcases hget i hi with ⟨h', e⟩ | ⟨_, e⟩
    · rw [e]; exact h.own i h'
    · rw [e]; exact hs
  · rcases hget i hi with ⟨h1, e1⟩ | ⟨h1, e1⟩ <;> rcases hget j hj with ⟨h2, e2⟩ | ⟨h2, e2⟩ <;> rw [e1] at hk <;> rw [e2] at hk'
    · exact h.apart i j h1 h2 hne k hk hk'
    · exact hn k hk' ⟨i, h1, hk⟩
    · exact hn k hk ⟨j, h2, hk'⟩
    · omega
/-- one of them is laid anew, in the same block or in a new one -/
theorem Fam.setAt {s : Sl} {i : Nat} (h : Fam w base e size L) (hi : i < L.length) {S : Nat → Prop} (hk : Keeps S w w') (hS : ∀ k, S k → InS L[i] k ∨ w.heap.size ≤ k) (hs : s.Is w' base e size) (hn : ∀ k, InS s k → InS L[i] k ∨ w.heap.size ≤ k) : Fam w' base e size (L.set i s) := by
  refine ⟨fun j hj => ?_, fun j m hj hm hne k hk1 hk2 => ?_⟩
  · rw [List.getElem_set]
    split
    · exact hs
    · rename_i hne
      have hj' : j < L.length := by simpa using hj
      refine Own.keep (h.own j hj') hk fun k hk' hSk => ?_
      rcases hS k hSk with h1 | h1
      · exact h.apart i j hi hj' hne k h1 hk'
      · have := (Own.inA (h.own j hj') hk').2; omega
  · have hj' : j < L.length := by simpa using hj
    have hm' : m < L.length := by simpa using hm
    rw [List.getElem_set] at hk1 hk2
    split at hk1 <;> split at hk2
    · omega
    · rename_i e1 e2
      rcases hn k hk1 with h1 | h1
      · exact h.apart i m hi hm' e2 k h1 hk2
      · have := (Own.inA (h.own m hm') hk2).2; omega
    · rename_i e1 e2
      rcases hn k hk2 with h1 | h1
      · exact h.apart i j hi hj' e1 k h1 hk1
      · have := (Own.inA (h.own j hj') hk1).2; omega
    · exact h.apart j m hj' hm' hne k hk1 hk2
end
end Go.Proofs.Ytkokagbmmlngjaa
