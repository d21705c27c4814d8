/- Lists that are gone through with some left out. No program's text. -/
import Derived.Test.YtkokagbmmlngjaaForP
namespace Go.Proofs.Ytkokagbmmlngjaa

theorem filter_take_succ {α : Type} (p : α → Bool) (l : List α) (i : Nat) (h : i < l.length) : (l.take (i + 1)).filter p = (l.take i).filter p ++ if p l[i] then [l[i]] else [] := by
  rw [List.take_succ_eq_append_getElem h, List.filter_append]
  congr 1
  by_cases hp : p l[i] = true <;> simp [List.filter_cons, hp]

theorem filter_take_at {α : Type} (p : α → Bool) (l : List α) (i : Nat) (h : i < l.length) (hp : p l[i] = true) (d : α) : (l.filter p).getD ((l.take i).filter p).length d = l[i] := by
  have e : l.filter p = (l.take i).filter p ++ l[i] :: (l.drop (i + 1)).filter p := by
    have := congrArg (List.filter p) (List.take_append_drop i l)
    rw [List.filter_append, List.drop_eq_getElem_cons h, List.filter_cons_of_pos hp] at this
    exact this.symm
  rw [e, List.getD_eq_getElem?_getD, List.getElem?_append_right (Nat.le_refl _), Nat.sub_self]
  rfl

theorem filter_take_le {α : Type} (p : α → Bool) (l : List α) (i : Nat) : ((l.take i).filter p).length ≤ (l.filter p).length := by
  have := congrArg (fun l => (List.filter p l).length) (List.take_append_drop i l)
  simp only [List.filter_append, List.length_append] at this
  omega

/-- items that a forest takes -/
def fits (x : ByteArray) : Bool := decide (x.size ≤ 1048576)
def takenOf (l : List ByteArray) : List ByteArray := l.filter fits
def itsOf (l : List ByteArray) (i : Nat) : ByteArray := l.getD i ByteArray.empty
theorem takenOf_le (l : List ByteArray) : (takenOf l).length ≤ l.length := List.length_filter_le _ _
theorem taken_at (l : List ByteArray) (i : Nat) (h : i < l.length) (hp : fits l[i] = true) : itsOf (takenOf l) (takenOf (l.take i)).length = l[i] := filter_take_at fits l i h hp _
theorem taken_yes (l : List ByteArray) (i : Nat) (h : i < l.length) (hp : fits l[i] = true) : takenOf (l.take (i + 1)) = takenOf (l.take i) ++ [l[i]] := by
  unfold takenOf; rw [filter_take_succ fits l i h, if_pos hp]
theorem taken_no (l : List ByteArray) (i : Nat) (h : i < l.length) (hp : fits l[i] = false) : takenOf (l.take (i + 1)) = takenOf (l.take i) := by
  unfold takenOf; rw [filter_take_succ fits l i h, if_neg (by rw [hp]; decide), List.append_nil]
theorem itsOf_at (l : List ByteArray) (i : Nat) (h : i < l.length) : itsOf l i = l[i] := by
  unfold itsOf; rw [List.getD_eq_getElem?_getD, List.getElem?_eq_getElem h]; rfl
theorem taken_fit (l : List ByteArray) : ∀ x ∈ takenOf l, x.size ≤ 1048576 := by
  intro x hx
  have := (List.mem_filter.1 hx).2
  simpa [fits] using this
theorem taken_all (l : List ByteArray) (h : ∀ x ∈ l, x.size ≤ 1048576) : takenOf l = l := List.filter_eq_self.2 fun x hx => by simpa [fits] using h x hx
end Go.Proofs.Ytkokagbmmlngjaa
