/- The helpers of massiflaw10's statements: few, same, mark, grown. -/
import Derived.Test.YtkokagbmmlngjaaAlive10
import Derived.Test.YtkokagbmmlngjaaOwn2
import Derived.Test.YtkokagbmmlngjaaFilter
import Derived.Test.YtkokagbmmlngjaaOpen
namespace Go.Proofs.Ytkokagbmmlngjaa
open Go.RowKit
set_option maxRecDepth 100000

theorem few10_any (A : Option Addr) (n c : Nat) (l : List ByteArray) (w : World) (hI : StrsIn w A n c l) :
    Calls Try.prog 18 #[.slice A n c] w fun e w' => e = .returned (.slice A (l.take 70).length c) ∧ w = w' := by
  have hl := hI.len
  have h1 := hI.le
  have h2 := hI.max
  have h3 := hI.nil
  have Hl : Kept ((l.take 70).length = min 70 n) := ⟨by rw [List.length_take, hl]⟩
  clear hl hI
  by_cases h : 70 < n
  · have t : decide ((70 : Int) < (n : Int)) = true := decide_eq_true (by omega)
    have h70 : (70 : Int) ≤ (c : Int) := by omega
    have e : Kept (min 70 n = 70) := ⟨by omega⟩
    cases A with
    | none => have := h3 rfl; omega
    | some a =>
      clear h3
      go_enter Try.func18, Try.ntmps18
      go_wp2
      go_ret
      exact ⟨by rw [Hl.out, e.out]; rfl, rfl⟩
  · have t : decide ((70 : Int) < (n : Int)) = false := decide_eq_false (by omega)
    have e : Kept (min 70 n = n) := ⟨by omega⟩
    clear h3
    go_enter Try.func18, Try.ntmps18
    go_wp2
    go_ret
    exact ⟨by rw [Hl.out, e.out]; rfl, rfl⟩

theorem StrsIn.take {w : World} {A : Option Addr} {n c : Nat} {l : List ByteArray} (h : StrsIn w A n c l) (m : Nat) : StrsIn w A (l.take m).length c (l.take m) :=
  ⟨rfl, by have := h.cells.take m; rwa [strs, ← List.map_take] at this, by have := h.len; have := h.le; rw [List.length_take]; omega, h.max, fun e => by have := h.nil e; have := h.len; rw [List.length_take]; omega, fun x hx => h.size x (List.mem_of_mem_take hx)⟩

/-- texts, one by one: alike -/
theorem same10_yes (A B : Option Addr) (n c d : Nat) (l : List ByteArray) (w : World) (hn : l.length = n) (hm : n ≤ 9223372036854775807) (hA : Cells w A (strs l)) (hB : Cells w B (strs l)) :
    Calls Try.prog 31 #[.slice A n c, .slice B n d] w fun e w' => e = .returned (.bool true) ∧ Same w w' := by
  subst hn
  have hlm : (l.length : Int) ≤ 9223372036854775807 := by omega
  clear hm
  go_enter Try.func31, Try.ntmps31
  go_wp2
  go_loopw [5] (fun i wr => ∃ j : Nat, j ≤ l.length ∧ i = .int .i64 j ∧ Same w wr) (fun i _ => l.length - (intOf i).toNat)
  case atStart => exact ⟨0, Nat.zero_le _, rfl, Keeps.refl _ _⟩
  case round =>
    obtain ⟨j, hj, rfl, hs⟩ := hrel
    by_cases hlt : j < l.length
    · have hne : strs l ≠ [] := by
        intro h
        have := strs_at l j hlt
        rw [h] at this
        cases this
      obtain ⟨b, o, hA1, hca⟩ := (hA.same hs).at_ hne
      obtain ⟨b', o', hB1, hcb⟩ := (hB.same hs).at_ hne
      subst hA1 hB1
      have x0 := hca _ _ (strs_at l j hlt)
      have y0 := hcb _ _ (strs_at l j hlt)
      have h1 : (0 : Int) ≤ (j : Int) := by omega
      have h2 : (j : Int) < (l.length : Int) := by omega
      clear hca hcb hA hB hne
      go_wp2_with fail
      go_quiet (fail)
      have hs2 := hs.drewN nq
      go_wp2_with fail
      go_roundw
      case rel => exact ⟨j + 1, by omega, by go_num, hs2⟩
      case measure => simp [intOf]; omega
    · obtain rfl : j = l.length := by omega
      go_wp2_with fail
      go_ret
      exact ⟨rfl, hs⟩

def markOf (i : Nat) : ByteArray := txt [33, (i : Int) % 256, (i : Int) / 256 % 256]
theorem mark10_any (i : Nat) (w : World) (hi : i ≤ 9223372036854775807) :
    Calls Try.prog 32 #[.int .i64 i] w fun e w' => e = .returned (.string (markOf i)) ∧ Same w w' := by
  have hcv : (convert 60 9 (.slice (some ⟨w.heap.size, 0, none⟩) 3 3)).run Try.prog (w.alloc (.cells #[.int .u8 33, .int .u8 ((i : Int) % 256), .int .u8 ((i : Int) / 256 % 256)] 5)) = .ok (.string (markOf i)) (w.alloc (.cells #[.int .u8 33, .int .u8 ((i : Int) % 256), .int .u8 ((i : Int) / 256 % 256)] 5)) :=
    convert_blk (P := Try.prog) (src := 60) (e := 5) (dst := 9) (by kernel_rfl) (by kernel_rfl) (by kernel_rfl) (Blk.new w 5 (b8 [33, (i : Int) % 256, (i : Int) / 256 % 256])) 3 3 (by simp)
  go_enter Try.func32, Try.ntmps32
  go_wp2
  go_ret
  exact ⟨rfl, (Keeps.refl _ _).alloc _⟩

/-- what grown gives -/
def RetGrown (w : World) (k : Int) (its : Nat → ByteArray) (l : List ByteArray) (e : Ending) (w' : World) : Prop :=
  ∃ bf bm A c, e = .returned (.tuple #[.pointer (some ⟨bf, 0, none⟩), .slice A (takenOf l).length c, .bool true]) ∧ w.heap.size ≤ bf ∧ w.heap.size ≤ bm ∧ IsForest w' bf bm k its (takenOf l).length ∧
    Own w' w.heap.size 9 1 A c (takenOf l).length (strs (takenOf l)) ∧ (∀ b, InA A b → b ≠ bf ∧ b ≠ bm) ∧ Same w w'

set_option maxHeartbeats 4000000 in
theorem grown10_any (k : Int) (A : Option Addr) (n c : Nat) (l : List ByteArray) (its : Nat → ByteArray) (w : World) (hk : 1 ≤ k ∧ k ≤ 32) (hI : StrsIn w A n c l) (hn : n ≤ 65535)
    (hits : ∀ i, i < (takenOf l).length → its i = itsOf (takenOf l) i) :
    Calls Try.prog 29 #[.int .i64 k, .slice A n c] w (RetGrown w k its l) := by
  have hlen := hI.len
  have Kk := Kept.mk hk
  subst hlen
  have hlj : (l.length : Int) ≤ 65535 := by omega
  have Hn := Kept.mk hn
  have Hits := Kept.mk hits
  clear hk hn hits
  go_enter Try.func29, Try.ntmps29
  go_wp2_with fail
  refine (fnew_any k its _ Kk.out.1 Kk.out.2).mono ?_
  rintro e w1 ⟨rfl, hs1, hF1⟩
  go_wp2_with (go_at_call 20; refine (num10_any _ _).mono ?_; rintro e w' ⟨rfl, rfl⟩)
  have hsz1 : w.heap.size + 1 < w1.heap.size := hF1.cells.lt
  go_loopw [9, 10] (fun t i wr => ∃ (j m : Nat) (B : Option Addr) (cc : Nat), j ≤ l.length ∧ i = .int .i64 j ∧ t = .slice B m cc ∧ Kept (m = (takenOf (l.take j)).length) ∧ IsForest wr (w.heap.size + 1) w.heap.size k its m ∧
      Own wr (w.heap.size + 2) 9 1 B cc m (strs (takenOf (l.take j))) ∧ Same w wr) (fun _ i _ => l.length - (intOf i).toNat)
  case atStart => exact ⟨0, 0, none, 0, Nat.zero_le _, rfl, rfl, ⟨rfl⟩, hF1, Own.none _ _ _ _, hs1⟩
  case round =>
    clear hF1 hs1
    obtain ⟨j, m, B, cc, hj, rfl, rfl, hm, hF, hO, hs⟩ := hrel
    by_cases hlt : j < l.length
    · have hne : strs l ≠ [] := by
        intro h
        have := strs_at l j hlt
        rw [h] at this
        cases this
      obtain ⟨b, o, hA1, hca⟩ := (hI.cells.same hs).at_ hne
      subst hA1
      have x0 := hca _ _ (strs_at l j hlt)
      have hml : m ≤ j := by
        rw [hm.out]
        have := takenOf_le (l.take j)
        rw [List.length_take] at this
        omega
      have hmb : m < 65536 := by have := Hn.out; omega
      have hsx : Kept (l[j].size ≤ 9223372036854775807) := ⟨hI.size _ (List.getElem_mem hlt)⟩
      have Hne := Kept.mk hne
      clear hca hne
      by_cases hfit : l[j].size ≤ 1048576
      · have Hfit := Kept.mk hfit
        have hy : Kept (takenOf (l.take (j + 1)) = takenOf (l.take j) ++ [l[j]]) := ⟨taken_yes l j hlt (by simpa [fits] using hfit)⟩
        have hmt : m < (takenOf l).length := by
          have h1 := filter_take_le fits l (j + 1)
          have h2 := congrArg List.length hy.out
          rw [List.length_append] at h2
          simp only [takenOf, List.length_singleton] at h1 h2
          have h3 := hm.out
          simp only [takenOf] at h3 ⊢
          omega
        have hat : Kept (its m = l[j]) := ⟨by rw [Hits.out m hmt, hm.out]; exact taken_at l j hlt (by simpa [fits] using hfit)⟩
        have t1 : decide ((1048576 : Int) < (l[j].size : Int)) = false := decide_eq_false (by omega)
        clear hfit
        generalize l[j] = x at *
        obtain ⟨T, hT⟩ : ∃ T, Kept (trail (m + 1) = T) := ⟨_, ⟨rfl⟩⟩
        have hT2 : Kept (trail ((m : Int) + 1).toNat = T) := ⟨by rw [show ((m : Int) + 1).toNat = m + 1 by omega]; exact hT.out⟩
        have hTb : T ≤ 64 := by
          have := (trailFrom_range (m + 1) 64 0).2
          rw [← hT.out]; unfold trail; omega
        have htr : Kept (0 ≤ (m : Int) + 1 ∧ (m : Int) + 1 < 18446744073709551616) := ⟨by omega⟩
        have hTe : ((T : Int) + 1 != 1 + (T : Int)) = false := by rw [bne_eq_false_iff_eq]; omega
        go_wp2_with fail
        refine (append_any (w.heap.size + 1) w.heap.size k its m x wr Hfit.out hmb hat.out hF).mono ?_
        rintro e w5 ⟨X, cx, rfl, hX, hF5, hk5⟩
        rw [hT.out] at hX ⊢
        have hsz5 := hk5.size
        have hsz0 := hs.size
        have hs5 : Same w w5 := hs.then hk5 (fun i hi e => by omega)
        have hO5 := hO.keep hk5 (fun b hb e => by have := (hO.inA hb).1; omega)
        have x5 : w5.cell? ⟨b, o + j, none⟩ = some (.string x) := hk5.cell' x0 (by
          have h0 := hI.cells.lt Hne.out b ⟨_, rfl, rfl⟩
          show ¬ (b = w.heap.size + 1 ∨ b = w.heap.size)
          omega)
        have hbb : (m + 1) * 16 ≤ 140737488355328 := by omega
        have hsz6 : w.heap.size + 2 ≤ w5.heap.size := hF5.cells.lt
        clear x0 hk5 hF hO hs hX hsz5
        go_wp2_with (first
          | (go_at_call 20; refine (num10_any _ _).mono ?_; rintro e w' ⟨rfl, rfl⟩)
          | (go_at_call 23; refine (fsize_any _ _ _ _ _ _ hF5).mono ?_; rintro e w' ⟨rfl, rfl⟩)
          | (go_at_call 80; refine (trail_any _ _ htr.out.1 htr.out.2).mono ?_; rintro e w3 ⟨rfl, rfl⟩; rw [hT2.out])
          | (at_builtin; refine append_one (w.heap.size + 2) rfl _ _ 22 9 (.string ByteArray.empty) 1 16 rfl (by kernel_rfl) infoString rfl (by decide) (by decide) B cc m _ [.string x] rfl rfl rfl (by simp [Value.oneCell']) hO5 hsz6 hbb ?_; intro A1 c1 w6 hO6 hk6 hA6))
        go_roundw
        case rel =>
          refine ⟨j + 1, m + 1, A1, c1, by omega, by go_num, rfl, ⟨by rw [hy.out, List.length_append, ← hm.out]; rfl⟩, hF5.keep hk6 ?_ ?_, ?_, hs5.then hk6 ?_⟩
          · intro hb; have := (hO5.inA hb).1; omega
          · intro hb; have := (hO5.inA hb).1; omega
          · rw [hy.out, strs, List.map_append]; exact hO6
          · intro b hb hA; have := (hO5.inA hA).1; omega
        case measure => simp [intOf]; omega
      · have Hfit := Kept.mk hfit
        have hy : Kept (takenOf (l.take (j + 1)) = takenOf (l.take j)) := ⟨taken_no l j hlt (by simpa [fits] using hfit)⟩
        have t1 : decide ((1048576 : Int) < (l[j].size : Int)) = true := decide_eq_true (by omega)
        clear hfit
        generalize l[j] = x at *
        go_wp2_with fail
        refine (append_big (w.heap.size + 1) w.heap.size k its m x wr (by have := Hfit.out; omega) hsx.out).mono ?_
        rintro e w5 ⟨rfl, rfl⟩
        go_wp2_with (go_at_call 20; refine (num10_any _ _).mono ?_; rintro e w' ⟨rfl, rfl⟩)
        go_roundw
        case rel => exact ⟨j + 1, m, B, cc, by omega, by go_num, rfl, ⟨by rw [hy.out]; exact hm.out⟩, hF, by rw [hy.out]; exact hO, hs⟩
        case measure => simp [intOf]; omega
    · obtain rfl : j = l.length := by omega
      have hall : Kept (takenOf (l.take l.length) = takenOf l) := ⟨by rw [List.take_length]⟩
      have hw : IntKind.u64.wrap (m : Int) = (m : Int) := by
        rw [IntKind.wrap_u64]
        have := takenOf_le (l.take l.length)
        have := hm.out
        have := Hn.out
        rw [List.length_take] at *
        omega
      have he : ((m : Int) == (m : Int)) = true := by rw [beq_iff_eq]
      go_wp2_with (go_at_call 23; refine (fsize_any _ _ _ _ _ _ hF).mono ?_; rintro e w' ⟨rfl, rfl⟩)
      rw [hall.out] at hm hO
      have hsz0 := hF.cells.lt
      go_ret3
      refine ⟨w.heap.size + 1, w.heap.size, B, cc, ?_, by omega, by omega, ?_, ?_, ?_, hs⟩
      · rw [hm.out]; rfl
      · rw [← hm.out]; exact hF
      · rw [← hm.out]; exact hO.below (by omega)
      · intro b hb
        have := (hO.inA hb).1
        omega
end Go.Proofs.Ytkokagbmmlngjaa
