/- Maps from blocks to texts: what a map's block holds, as a list; looking up, laying anew. -/
import Derived.Test.YtkokagbmmlngjaaMts
import Derived.Carry
namespace Go.Proofs.Ytkokagbmmlngjaa
open Go.RowKit
set_option maxRecDepth 100000

abbrev Bk := Int × Int
def bkV (b : Bk) : Value := blk b.1 b.2

/-- Block b is a map with these entries, in the order in which they came. -/
def MapIs (w : World) (b : Nat) (l : List (Bk × ByteArray)) : Prop :=
  ∃ es clock, w.heap[b]? = some (.map es clock) ∧ es.toList.map (fun e => (e.key, e.val)) = l.map (fun p => (bkV p.1, Value.string p.2))

theorem MapIs.lt {w : World} {b : Nat} {l : List (Bk × ByteArray)} (h : MapIs w b l) : b < w.heap.size := by
  obtain ⟨es, clock, hb, _⟩ := h
  exact (Array.getElem?_eq_some_iff.1 hb).1
theorem MapIs.keep {S : Nat → Prop} {w w' : World} {b : Nat} {l : List (Bk × ByteArray)} (h : MapIs w b l) (hk : Keeps S w w') (hs : ¬ S b) : MapIs w' b l := by
  have := h.lt
  obtain ⟨es, clock, hb, hl⟩ := h
  exact ⟨es, clock, (hk.block b this hs).trans hb, hl⟩
theorem MapIs.new (w : World) : MapIs (w.alloc (.map #[] 0)) w.heap.size [] := ⟨#[], 0, heap_alloc_new w _, rfl⟩

theorem equal_blk (a b c d : Int) (w : World) : (Op.equal 45 (blk a b) (blk c d)).run Try.prog w = .ok (a == c && b == d) w := by
  unfold blk Op.equal Op.maxDepth
  simp [go_sem]
  by_cases h1 : a = c <;> by_cases h2 : b = d <;> simp [h1, h2]

theorem check_blk (em : Bool) (a b : Int) (w : World) : (Instr.checkKey em 10000 45 (blk a b)).run Try.prog w = .ok () w := by
  unfold blk
  kernel_rfl

def find (b : Bk) : List (Bk × ByteArray) → Nat → Option (Nat × ByteArray)
  | [], _ => none
  | p :: l, i => if b = p.1 then some (i, p.2) else find b l (i + 1)

theorem find_asking (b : Bk) (w : World) : ∀ (es : List MapEntry) (l : List (Bk × ByteArray)) (i : Nat), es.map (fun e => (e.key, e.val)) = l.map (fun p => (bkV p.1, Value.string p.2)) →
    (Instr.findAsking 45 (bkV b) es i).run Try.prog w = .ok ((find b l i).map fun p => (p.1, .string p.2)) w
  | [], l, i, h => by
    have : l = [] := by simpa using h.symm
    subst this
    rfl
  | e :: es, [], i, h => by simp at h
  | e :: es, p :: l, i, h => by
    simp only [List.map_cons, List.cons.injEq, Prod.mk.injEq] at h
    obtain ⟨⟨hk, hv⟩, hr⟩ := h
    have ih := find_asking b w es l (i + 1) hr
    obtain ⟨⟨p1, p2⟩, ps⟩ := p
    obtain ⟨b1, b2⟩ := b
    simp only [Instr.findAsking, hk, hv, bkV, Sem.run_bind, equal_blk, Result.andThen_ok] at ih ⊢
    rw [find]
    by_cases he : b1 = p1 ∧ b2 = p2
    · obtain ⟨rfl, rfl⟩ := he
      simp
    · have h1 : (b1 == p1 && b2 == p2) = false := by
        rw [Bool.and_eq_false_iff]
        by_cases h : b1 = p1
        · right; rw [beq_eq_false_iff_ne]; exact fun e => he ⟨h, e⟩
        · left; rw [beq_eq_false_iff_ne]; exact h
      have h2 : ¬ ((b1, b2) = (p1, p2)) := by simp only [Prod.mk.injEq]; exact he
      rw [h1]
      simp only [Bool.false_eq_true, if_false, h2]
      exact ih

theorem find_key (b : Bk) (w : World) (es : List MapEntry) (l : List (Bk × ByteArray)) (h : es.map (fun e => (e.key, e.val)) = l.map (fun p => (bkV p.1, Value.string p.2))) :
    (Instr.findKey 45 (bkV b) es).run Try.prog w = .ok ((find b l 0).map fun p => (p.1, .string p.2)) w := by
  unfold Instr.findKey
  simp only [Sem.run_bind, run_underlying Try.underlying45, Result.andThen_ok]
  cases es with
  | nil =>
    have : l = [] := by simpa using h.symm
    subst this
    rfl
  | cons e es =>
    have := find_asking b w (e :: es) l 0 h
    simp only [Instr.findNow, Instr.sameNow]
    exact this

/-- what a lookup gives -/
def look (b : Bk) (l : List (Bk × ByteArray)) : Option ByteArray := (find b l 0).map (·.2)

theorem find_shift (b : Bk) (l : List (Bk × ByteArray)) : ∀ i j, (find b l i).map (·.2) = (find b l j).map (·.2) := by
  induction l with
  | nil => intro i j; rfl
  | cons p l ih =>
    intro i j
    rw [find, find]
    split
    · rfl
    · exact ih _ _
theorem look_nil (b : Bk) : look b [] = none := rfl
theorem look_cons (b : Bk) (p : Bk × ByteArray) (l : List (Bk × ByteArray)) : look b (p :: l) = if b = p.1 then some p.2 else look b l := by
  unfold look
  rw [find]
  split
  · rfl
  · exact find_shift b l 1 0
theorem look_append (b : Bk) (l m : List (Bk × ByteArray)) : look b (l ++ m) = (look b l).or (look b m) := by
  induction l with
  | nil => simp [look_nil]
  | cons p l ih =>
    rw [List.cons_append, look_cons, look_cons, ih]
    split <;> rfl

theorem lookup_map {w : World} {r : Nat} {l : List (Bk × ByteArray)} (h : MapIs w r l) (b : Bk) (ok : Bool) :
    (Instr.lookup 108 (.map (some r)) (bkV b) ok).run Try.prog w =
      .ok (if ok then .tuple #[.string ((look b l).getD ByteArray.empty), .bool (look b l).isSome] else .string ((look b l).getD ByteArray.empty)) w := by
  obtain ⟨es, clock, hb, hl⟩ := h
  have hk := find_key b w es.toList l hl
  have hc := fun em => check_blk em b.1 b.2 w
  have hz : (zeroValue 9).run Try.prog w = .ok (.string ByteArray.empty) w := by kernel_rfl
  unfold Instr.lookup look
  simp only [Sem.run_bind, run_underlying Try.underlying108, Result.andThen_ok, MapKept.run_getObj_map hb, Sem.run_pure]
  rw [show bkV b = blk b.1 b.2 from rfl] at *
  rw [hc]
  simp only [Result.andThen_ok, hk]
  cases hf : find b l 0 with
  | none => cases ok <;> simp [hz]
  | some p => cases ok <;> simp

theorem update_map {w : World} {r : Nat} {l : List (Bk × ByteArray)} (h : MapIs w r l) (b : Bk) (s : ByteArray) (hn : look b l = none) :
    ∃ w', (Instr.mapUpdate 108 (.map (some r)) (bkV b) (.string s)).run Try.prog w = .ok () w' ∧ MapIs w' r (l ++ [(b, s)]) ∧ Keeps (· = r) w w' ∧ w'.heap.size = w.heap.size := by
  obtain ⟨es, clock, hb, hl⟩ := h
  have hk := find_key b w es.toList l hl
  have hc := check_blk false b.1 b.2 w
  have hf : find b l 0 = none := by
    unfold look at hn
    simpa using hn
  refine ⟨ChangeMaps.setBlock w r (.map (es.push { key := bkV b, val := .string s, born := clock }) (clock + 1)), ?_, ?_, ?_, ?_⟩
  · unfold Instr.mapUpdate
    simp only [Sem.run_bind, run_underlying Try.underlying108, Result.andThen_ok, MapKept.run_getObj_map hb]
    rw [show bkV b = blk b.1 b.2 from rfl] at *
    rw [hc]
    simp only [Result.andThen_ok, hk, hf, Option.map_none]
    exact MapKept.run_setObj_map _ hb
  · exact ⟨_, _, ChangeMaps.heap_setBlock_same hb _, by simp [hl]⟩
  · exact ⟨rfl, rfl, rfl, by simp [ChangeMaps.setBlock], fun i _ hi => ChangeMaps.heap_setBlock_other hb _ hi⟩
  · simp [ChangeMaps.setBlock]

end Go.Proofs.Ytkokagbmmlngjaa
