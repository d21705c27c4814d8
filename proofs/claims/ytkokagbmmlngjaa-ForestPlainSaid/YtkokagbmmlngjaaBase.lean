/- Small words on worlds, blocks and slices that the walks of this seat share. No program's text. -/
import Derived.WalkKit
import Derived.WalkSpells
import Derived.WalkLawsBesides
import Derived.Lib.Hide
import Derived.Deep.QuietTactic
import Derived.BigQuiet
import Derived.StillTailTactics
import Derived.RowKit
import Derived.Deep.RegionWith
namespace Go.Proofs.Ytkokagbmmlngjaa
open Go.RowKit

/-- A fact that neither the walk's simp nor 'contradiction' looks into. -/
structure Kept (p : Prop) : Prop where
  out : p

/-- A block known whole, not frozen. -/
def Blk (w : World) (b : Nat) (T : TypeId) (vs : List Value) : Prop := w.heap[b]? = some (.cells vs.toArray T (0, 0))

theorem Blk.lt {w : World} {b : Nat} {T : TypeId} {vs : List Value} (h : Blk w b T vs) : b < w.heap.size :=
  (Array.getElem?_eq_some_iff.1 h).1

theorem Blk.cell {w : World} {b : Nat} {T : TypeId} {vs : List Value} (h : Blk w b T vs) (i : Nat) : w.cell? ⟨b, i, none⟩ = vs[i]? := by
  simp only [World.cell?]
  rw [show w.heap[b]? = _ from h]
  simp

theorem Blk.cell' {w : World} {b : Nat} {T : TypeId} {vs : List Value} (h : Blk w b T vs) {i : Nat} {v : Value} (hv : vs[i]? = some v) : w.cell? ⟨b, i, none⟩ = some v := by
  rw [h.cell, hv]

theorem Blk.frozen {w : World} {b : Nat} {T : TypeId} {vs : List Value} (h : Blk w b T vs) (i : Nat) : w.frozen? ⟨b, i, none⟩ = false := by
  simp only [World.frozen?]
  rw [show w.heap[b]? = _ from h]
  simp

theorem Blk.set {w : World} {b : Nat} {T : TypeId} {vs : List Value} (h : Blk w b T vs) (i : Nat) (v : Value) : Blk (w.setCell ⟨b, i, none⟩ v) b T (vs.set i v) := by
  unfold Blk at *
  simp only [World.setCell, Array.getElem?_modify]
  rw [h]
  simp

theorem Blk.setOther {w : World} {b : Nat} {T : TypeId} {vs : List Value} (h : Blk w b T vs) {c : Nat} (hc : c ≠ b) (i : Nat) (v : Value) : Blk (w.setCell ⟨c, i, none⟩ v) b T vs := by
  unfold Blk at *
  rw [Below.heap_setCell _ _ _ _ (by simpa using fun e => hc e.symm)]
  exact h

theorem Blk.alloc {w : World} {b : Nat} {T : TypeId} {vs : List Value} (h : Blk w b T vs) (o : Obj) : Blk (w.alloc o) b T vs := by
  have := h.lt
  unfold Blk at *
  rw [Below.heap_alloc _ _ _ this]
  exact h

theorem Blk.new (w : World) (T : TypeId) (vs : List Value) : Blk (w.alloc (.cells vs.toArray T)) w.heap.size T vs := by
  unfold Blk
  show (w.heap.push _)[w.heap.size]? = _
  simp

theorem Blk.drew {w : World} {b : Nat} {T : TypeId} {vs : List Value} (h : Blk w b T vs) : Blk w.drew b T vs := h
theorem Blk.drewN {w : World} {b : Nat} {T : TypeId} {vs : List Value} (h : Blk w b T vs) (n : Nat) : Blk (w.drewN n) b T vs := h

/-- All old blocks but those of S are as they were. -/
structure Keeps (S : Nat → Prop) (w w' : World) : Prop where
  os : w'.os = w.os
  tape : w'.tape = w.tape
  output : w'.output = w.output
  size : w.heap.size ≤ w'.heap.size
  block : ∀ k, k < w.heap.size → ¬ S k → w'.heap[k]? = w.heap[k]?

theorem Keeps.refl (S : Nat → Prop) (w : World) : Keeps S w w := ⟨rfl, rfl, rfl, Nat.le_refl _, fun _ _ _ => rfl⟩
theorem Keeps.trans {S : Nat → Prop} {a b c : World} (h : Keeps S a b) (k : Keeps S b c) : Keeps S a c :=
  ⟨k.os.trans h.os, k.tape.trans h.tape, k.output.trans h.output, Nat.le_trans h.size k.size, fun i hi hs => (k.block i (Nat.lt_of_lt_of_le hi h.size) hs).trans (h.block i hi hs)⟩
theorem Keeps.then {S S' : Nat → Prop} {a b c : World} (h : Keeps S a b) (k : Keeps S' b c) (hs : ∀ i, i < a.heap.size → S' i → S i) : Keeps S a c :=
  ⟨k.os.trans h.os, k.tape.trans h.tape, k.output.trans h.output, Nat.le_trans h.size k.size, fun i hi hn => (k.block i (Nat.lt_of_lt_of_le hi h.size) (fun f => hn (hs i hi f))).trans (h.block i hi hn)⟩
theorem Keeps.mono {S S' : Nat → Prop} {a b : World} (h : Keeps S a b) (hs : ∀ k, k < a.heap.size → S k → S' k) : Keeps S' a b :=
  ⟨h.os, h.tape, h.output, h.size, fun i hi hn => h.block i hi (fun hk => hn (hs i hi hk))⟩
theorem Keeps.alloc {S : Nat → Prop} {a w : World} (h : Keeps S a w) (o : Obj) : Keeps S a (w.alloc o) :=
  ⟨h.os, h.tape, h.output, by have := h.size; simp; omega, fun i hi hs => (Below.heap_alloc _ _ _ (Nat.lt_of_lt_of_le hi h.size)).trans (h.block i hi hs)⟩
theorem Keeps.drew {S : Nat → Prop} {a w : World} (h : Keeps S a w) : Keeps S a w.drew := ⟨h.os, h.tape, h.output, h.size, h.block⟩
theorem Keeps.drewN {S : Nat → Prop} {a w : World} (h : Keeps S a w) (n : Nat) : Keeps S a (w.drewN n) := ⟨h.os, h.tape, h.output, h.size, h.block⟩
theorem Keeps.setCell {S : Nat → Prop} {a w : World} (h : Keeps S a w) {p : Addr} (hp : S p.block ∨ a.heap.size ≤ p.block) (u : Value) : Keeps S a (w.setCell p u) :=
  ⟨h.os, h.tape, h.output, by have := h.size; simp [World.setCell]; omega, fun i hi hs => by
    rw [Below.heap_setCell _ _ _ _ (fun e => ?_)]
    · exact h.block i hi hs
    · subst e
      rcases hp with hp | hp
      · exact hs hp
      · omega⟩
theorem Keeps.grown {S : Nat → Prop} {a w w' : World} {row : Option Nat} (h : Keeps S a w) (hg : w.grownBy w' row) (hr : ∀ k, row = some k → S k ∨ a.heap.size ≤ k) : Keeps S a w' :=
  ⟨hg.os.trans h.os, hg.tape.trans h.tape, hg.output.trans h.output, Nat.le_trans h.size hg.size, fun i hi hs => by
    rw [hg.block i (Nat.lt_of_lt_of_le hi h.size) (fun e => ?_)]
    · exact h.block i hi hs
    · rcases hr i e.symm with hk | hk
      · exact hs hk
      · omega⟩
theorem Keeps.cell {S : Nat → Prop} {w w' : World} (h : Keeps S w w') {p : Addr} (hp : p.block < w.heap.size) (hs : ¬ S p.block) : w'.cell? p = w.cell? p :=
  World.cell?_of_block (w := w) (h.block p.block hp hs)
theorem Keeps.cell' {S : Nat → Prop} {w w' : World} (h : Keeps S w w') {p : Addr} {v : Value} (hv : w.cell? p = some v) (hs : ¬ S p.block) : w'.cell? p = some v :=
  (h.cell (World.block_lt_of_cell? w p hv) hs).trans hv
theorem Keeps.frozen {S : Nat → Prop} {w w' : World} (h : Keeps S w w') {p : Addr} (hp : p.block < w.heap.size) (hs : ¬ S p.block) : w'.frozen? p = w.frozen? p :=
  World.frozen?_of_block (w := w) (h.block p.block hp hs)
theorem Keeps.blk {S : Nat → Prop} {w w' : World} (h : Keeps S w w') {b : Nat} {T : TypeId} {vs : List Value} (hb : Blk w b T vs) (hs : ¬ S b) : Blk w' b T vs := by
  have := h.block b hb.lt hs
  unfold Blk at *
  rw [this]; exact hb
/-- Nothing old has turned. -/
abbrev Same (w w' : World) : Prop := Keeps (fun _ => False) w w'
theorem Keeps.below {w w' : World} (h : Same w w') : Below w.heap.size w w' := ⟨h.os, h.tape, h.output, h.size, fun k hk => h.block k hk (fun f => f)⟩
theorem same_of_below {w w' : World} (h : Below w.heap.size w w') : Same w w' := ⟨h.os, h.tape, h.output, h.size, fun k hk _ => h.block k hk⟩
theorem Keeps.of_same {S : Nat → Prop} {w w' : World} (h : Same w w') : Keeps S w w' := h.mono (fun _ _ f => f.elim)

theorem run_size {P : Program} {e : TypeId} {s : Nat} (h : (P.info? e).map (·.size) = some s) (w : World) : (sizeOf e).run P w = .ok s w := by
  obtain ⟨i, hi, rfl⟩ := Option.map_eq_some_iff.1 h
  simp [sizeOf, typeInfo, hi]

/-- A part of an array behind an address. -/
theorem sliceAt_arr {P : Program} {t e n s : Nat} (ht : P.underlying t = some (.array n e)) (hs : (P.info? e).map (·.size) = some s) (b o lo hi : Nat) (l h : Int) (hl : l = lo) (hh : h = hi) (h1 : lo ≤ hi) (h2 : hi ≤ n) (h3 : lo < n) (w : World) :
    (Instr.sliceAt t (.pointer (some ⟨b, o, none⟩)) (some (.int .i64 l)) (some (.int .i64 h)) none).run P w = .ok (.slice (some ⟨b, o + lo * s, none⟩) (hi - lo) (n - lo)) w := by
  have hn : P.arrayLen t = n := by simp [Program.arrayLen, ht]
  have he : P.elem t = e := by simp [Program.elem, ht]
  have ht' : P.underlying t = some (.array (P.arrayLen t) (P.elem t)) := by rw [hn, he, ht]
  rw [run_sliceAt_array_lh w t _ ht' .i64 .i64 l h (by omega) (by omega) (by omega), he, run_size hs]
  subst hl hh
  simp only [Result.andThen_ok, slicedAt, hn, Int.toNat_natCast]
  rw [if_neg (by omega)]
  by_cases h0 : lo * s = 0
  · simp [Addr.add, h0]
  · simp [Addr.add, h0]

theorem sliceAt_arr_from {P : Program} {t e n s : Nat} (ht : P.underlying t = some (.array n e)) (hs : (P.info? e).map (·.size) = some s) (b o lo : Nat) (l : Int) (hl : l = lo) (h3 : lo < n) (w : World) :
    (Instr.sliceAt t (.pointer (some ⟨b, o, none⟩)) (some (.int .i64 l)) none none).run P w = .ok (.slice (some ⟨b, o + lo * s, none⟩) (n - lo) (n - lo)) w := by
  have hn : P.arrayLen t = n := by simp [Program.arrayLen, ht]
  have he : P.elem t = e := by simp [Program.elem, ht]
  have ht' : P.underlying t = some (.array (P.arrayLen t) (P.elem t)) := by rw [hn, he, ht]
  rw [run_sliceAt_array_l w t _ ht' .i64 l (by omega) (by omega), he, run_size hs]
  subst hl
  simp only [Result.andThen_ok, slicedAt, hn, Int.toNat_natCast]
  rw [if_neg (by omega)]
  by_cases h0 : lo * s = 0
  · simp [Addr.add, h0]
  · simp [Addr.add, h0]

theorem sliceAt_arr_to {P : Program} {t e n s : Nat} (ht : P.underlying t = some (.array n e)) (hs : (P.info? e).map (·.size) = some s) (b o hi : Nat) (h : Int) (hh : h = hi) (h2 : hi ≤ n) (h3 : 0 < n) (w : World) :
    (Instr.sliceAt t (.pointer (some ⟨b, o, none⟩)) none (some (.int .i64 h)) none).run P w = .ok (.slice (some ⟨b, o, none⟩) hi n) w := by
  have hn : P.arrayLen t = n := by simp [Program.arrayLen, ht]
  have he : P.elem t = e := by simp [Program.elem, ht]
  have ht' : P.underlying t = some (.array (P.arrayLen t) (P.elem t)) := by rw [hn, he, ht]
  rw [run_sliceAt_array_h w t _ ht' .i64 h (by omega) (by omega), he, run_size hs]
  subst hh
  simp only [Result.andThen_ok, slicedAt, hn, Int.toNat_natCast]
  rw [if_neg (by omega)]
  simp [Addr.add]

theorem Keeps.setRow {S : Nat → Prop} {a w : World} (h : Keeps S a w) {g : Nat} (hg : S g ∨ a.heap.size ≤ g) (cs : Array Value) : Keeps S a (w.setRow g cs) :=
  ⟨h.os, h.tape, h.output, by have := h.size; simp; omega, fun i hi hs => by
    have hne : i ≠ g := fun e => by
      subst e
      rcases hg with hg | hg
      · exact hs hg
      · omega
    rw [← h.block i hi hs]
    simp only [World.setRow, Array.getElem?_modify]
    rw [if_neg (fun e => hne e.symm)]⟩

/-- A whole row stored into a block known whole: the world behind it has a name. -/
theorem wpList_store_blk {P : Program} {ops : Array Oper} {rest : List Oper} {o : Oper} {a : Act} {w : World} {Q : Exit → Act → World → Prop} (hgd : o.guard = none) (ty : TypeId) (x y : Operand) (ho : o.op = .store ty x y)
    (g : Nat) (cells : List Value) (hx : a.eval x = .pointer (some ⟨g, 0, none⟩)) (hy : a.eval y = .agg cells.toArray)
    (t : TypeId) (old : List Value) (hg : Blk w g t old) (hi : (P.info? ty).map (·.size) = some cells.length)
    (hold : old.length = cells.length) (h1 : ∀ v ∈ cells, v.oneCell' = true)
    (h : ∀ w2, Blk w2 g t cells → Keeps (· = g) w w2 → w2.heap.size = w.heap.size → wpList P ops Q rest (a.put o.dst undef) w2) : wpList P ops Q (o :: rest) a w := by
  refine wpList_store_row hgd ty x y ho g cells.toArray hx hy t old.toArray hg (by simpa using hi) (by simpa using hold) (Array.all_eq_true_iff_forall_mem.2 fun v hv => h1 v (by simpa using hv)) ?_
  refine h _ ?_ ((Keeps.refl (· = g) w).setRow (.inl rfl) _) (by simp)
  exact setRow_heap _ _ _ _ _ _ hg

/-- A whole row read out of a block known whole. -/
theorem wpList_load_blk {P : Program} {ops : Array Oper} {rest : List Oper} {o : Oper} {a : Act} {w : World} {Q : Exit → Act → World → Prop} (hgd : o.guard = none) (ty : TypeId) (x : Operand) (ho : o.op = .load ty x)
    (g : Nat) (hx : a.eval x = .pointer (some ⟨g, 0, none⟩)) (t : TypeId) (cs : List Value) (d : TypeDesc) (hg : Blk w g t cs)
    (hu : P.underlying ty = some d) (hd : (match d with | .struct _ | .array _ _ => true | _ => false) = true) (hi : (P.info? ty).map (·.size) = some cs.length)
    (h : wpList P ops Q rest (a.put o.dst (.agg cs.toArray)) w) : wpList P ops Q (o :: rest) a w :=
  wpList_load_row hgd ty x ho g hx t cs.toArray (0, 0) d hg hu hd (by simpa using hi) h

theorem ret_int {k : IntKind} {a b : Int} (h : a = b) : Ending.returned (.int k a) = .returned (.int k b) := by rw [h]

end Go.Proofs.Ytkokagbmmlngjaa
