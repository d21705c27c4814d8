/- The walks of package plain. -/
import Derived.Test.YtkokagbmmlngjaaPlainP
import Derived.Test.YtkokagbmmlngjaaOpen
import Derived.IntWalk
namespace Go.Proofs.Ytkokagbmmlngjaa
open Go.RowKit
set_option maxRecDepth 100000

set_option maxHeartbeats 1000000 in
theorem ptree_any (k : Int) : ∀ (h b o n c : Nat) (xs : List ByteArray) (w : World), n = 2 ^ h → xs.length = n → n ≤ c → c ≤ 9223372036854775807 → Cells w (some ⟨b, o, none⟩) (strs xs) → (∀ x ∈ xs, x.size ≤ 1152921504606846976) →
    Calls Try.prog 85 #[.int .i64 k, .slice (some ⟨b, o, none⟩) n c] w fun e w' => e = .returned (.string (treeL k h xs)) ∧ Same w w' := by
  intro h
  induction h with
  | zero =>
    intro b o n c xs w hn hx hc hm hC hz
    obtain rfl : n = 1 := hn
    obtain ⟨x, rfl⟩ : ∃ x, xs = [x] := by
      match xs, hx with
      | [x], _ => exact ⟨x, rfl⟩
    obtain ⟨_, _, hAe, hcell⟩ := hC.at_ (by simp [strs])
    cases hAe
    have x0 := hcell 0 (.string x) rfl
    rw [Nat.add_zero] at x0
    have Kz : Kept (x.size ≤ 1152921504606846976) := ⟨hz x (by simp)⟩
    clear hcell hC hz hx
    go_enter Try.func85, Try.ntmps85
    go_wp2_with (go_at_call 33; refine (hleaf_any _ _ _ Kz.out).mono ?_; rintro e w1 ⟨rfl, hs⟩)
    go_ret
    exact ⟨rfl, hs⟩
  | succ h ih =>

    intro b o n c xs w hn hx hc hm hC hz
    obtain ⟨P, hP⟩ : ∃ P, Kept (2 ^ h = P) := ⟨_, ⟨rfl⟩⟩
    have hn2 : n = P + P := by rw [hn, Nat.pow_succ, hP.out]; omega
    have hPp : 0 < P := by rw [← hP.out]; exact Nat.two_pow_pos h
    have hCL : Cells w (some ⟨b, o, none⟩) (strs (xs.take P)) := by
      have := hC.take P
      rwa [strs, ← List.map_take] at this
    have hCR : Cells w (some ⟨b, o + P, none⟩) (strs (xs.drop P)) := by
      have := hC.part P P b o rfl
      rw [show ((strs xs).drop P).take P = strs (xs.drop P) by
        rw [strs, strs, ← List.map_drop, ← List.map_take, List.take_of_length_le (by rw [List.length_drop]; omega)]] at this
      exact this
    obtain ⟨L, hL⟩ : ∃ L, Kept (treeL k h (xs.take P) = L ∧ L.size ≤ 1152921504606846976) := ⟨_, ⟨rfl, by unfold treeL; rw [tree_size]; have := clampK_range k; omega⟩⟩
    obtain ⟨R, hR⟩ : ∃ R, Kept (treeL k h (xs.drop P) = R ∧ R.size ≤ 1152921504606846976) := ⟨_, ⟨rfl, by unfold treeL; rw [tree_size]; have := clampK_range k; omega⟩⟩
    have hT : Kept (treeL k (h + 1) xs = hnode k L R) := ⟨by rw [treeL_succ, hP.out, hL.out.1, hR.out.1]⟩
    have HL : Kept (∀ w1, Same w w1 → Calls Try.prog 85 #[.int .i64 k, .slice (some ⟨b, o, none⟩) P c] w1 fun e w' => e = .returned (.string L) ∧ Same w1 w') := ⟨fun w1 hw => by
      have := ih b o P c (xs.take P) w1 hP.out.symm (by rw [List.length_take]; omega) (by omega) hm (hCL.same hw) (fun x hx => hz x (List.mem_of_mem_take hx))
      rwa [hL.out.1] at this⟩
    have HR : Kept (∀ w1, Same w w1 → Calls Try.prog 85 #[.int .i64 k, .slice (some ⟨b, o + P, none⟩) P (c - P)] w1 fun e w' => e = .returned (.string R) ∧ Same w1 w') := ⟨fun w1 hw => by
      have := ih b (o + P) P (c - P) (xs.drop P) w1 hP.out.symm (by rw [List.length_drop]; omega) (by omega) (by omega) (hCR.same hw) (fun x hx => hz x (List.mem_of_mem_drop hx))
      rwa [hR.out.1] at this⟩
    have t1 : ((n : Int) == 1) = false := by rw [beq_eq_false_iff_ne]; omega
    have hq : (n : Int) / 2 = (P : Int) := by omega
    have hsub : n - P = P := by omega
    have hPc : (P : Int) < (c : Int) := by omega
    have hPn : (P : Int) ≤ (n : Int) := by omega
    have hP0 : (0 : Int) ≤ (P : Int) := by omega
    have hnb : (n : Int) ≤ 9223372036854775807 := by omega
    clear hCL hCR hC hz hx hn hn2 ih
    go_enter Try.func85, Try.ntmps85
    go_wp2_with fail
    go_region_with (first
      | (go_at_call 85; (with_reducible refine (HL.out _ ?hsL).mono ?_); (case hsL => exact (Keeps.refl _ w).drew); rintro e w1 ⟨rfl, hs1⟩)
      | (go_at_call 85; (with_reducible refine (HR.out _ ?hsR).mono ?_); (case hsR => exact (Keeps.refl _ w).drew.trans hs1); rintro e w2 ⟨rfl, hs2⟩)
      | (go_at_call 28; refine (hnode_any _ _ _ _ hL.out.2 hR.out.2).mono ?_; rintro e w3 ⟨rfl, hs3⟩))
    go_wp2_with fail
    go_ret
    exact ⟨by rw [hT.out]; rfl, ((Keeps.refl (fun _ => False) w).drew.trans hs1).trans (hs2.trans hs3)⟩


set_option maxHeartbeats 1000000 in
theorem pTree_no (k : Int) (A : Option Addr) (n c h q : Nat) (w : World) (hh : h ≤ 40) (hn : n ≤ 9223372036854775807) (hq : n / 2 ^ h ≤ q) :
    Calls Try.prog 40 #[.int .i64 k, .slice A n c, .agg #[.int .i64 h, .int .u64 q]] w fun e w' => e = .returned (.tuple #[.string ByteArray.empty, .bool false]) ∧ Same w w' := by
  have hB := Blk.new w 45 [.int .i64 (h : Int), .int .u64 (q : Int)]
  have hk := (Keeps.refl (fun _ => False) w).alloc (.cells #[.int .i64 (h : Int), .int .u64 (q : Int)] 45)
  obtain ⟨Q, hQ⟩ : ∃ Q, Kept (n / 2 ^ h = Q) := ⟨_, ⟨rfl⟩⟩
  have hdq : (n : Int) / 2 ^ h = (Q : Int) := by rw [intDiv, hQ.out]
  have t1 : decide ((h : Int) < 0) = false := decide_eq_false (by omega)
  have t2 : decide ((40 : Int) < (h : Int)) = false := decide_eq_false (by omega)
  have t3 : decide (Q ≤ q) = true := decide_eq_true (by rw [← hQ.out]; exact hq)
  have hh0 : (0 : Int) ≤ (h : Int) := by omega
  have hh1 : (h : Int) ≤ 40 := by omega
  have hnb : (n : Int) ≤ 9223372036854775807 := by omega
  clear hq hn
  go_enter Try.func40, Try.ntmps40
  go_wp2_with fail
  have q0 := hB.cell' (show [Value.int .i64 (h : Int), .int .u64 (q : Int)][0]? = some (.int .i64 (h : Int)) from rfl)
  have q1 := hB.cell' (show [Value.int .i64 (h : Int), .int .u64 (q : Int)][1]? = some (.int .u64 (q : Int)) from rfl)
  go_quiet (fail)
  go_wp2_with fail
  go_ret2
  exact ⟨rfl, hk.drewN _⟩

set_option maxHeartbeats 1000000 in
theorem pTree_yes (k : Int) (A : Option Addr) (n c h q : Nat) (xs : List ByteArray) (w : World) (hh : h ≤ 40) (hI : StrsIn w A n c xs) (hz : ∀ x ∈ xs, x.size ≤ 1152921504606846976) (hn : n ≤ 1099511627776) (hq : q < n / 2 ^ h) :
    Calls Try.prog 40 #[.int .i64 k, .slice A n c, .agg #[.int .i64 h, .int .u64 q]] w fun e w' => e = .returned (.tuple #[.string (tree k (itsOf xs) h q), .bool true]) ∧ Same w w' := by

  have hB := Blk.new w 45 [.int .i64 (h : Int), .int .u64 (q : Int)]
  have hk := (Keeps.refl (fun _ => False) w).alloc (.cells #[.int .i64 (h : Int), .int .u64 (q : Int)] 45)
  obtain ⟨Q, hQ⟩ : ∃ Q, Kept (n / 2 ^ h = Q) := ⟨_, ⟨rfl⟩⟩
  have hdq : (n : Int) / 2 ^ h = (Q : Int) := by rw [intDiv, hQ.out]
  have t1 : decide ((h : Int) < 0) = false := decide_eq_false (by omega)
  have t2 : decide ((40 : Int) < (h : Int)) = false := decide_eq_false (by omega)
  have t3 : decide (Q ≤ q) = false := decide_eq_false (by rw [← hQ.out]; omega)
  have hh0 : (0 : Int) ≤ (h : Int) := by omega
  have hh1 : (h : Int) ≤ 40 := by omega
  have hnb : (n : Int) ≤ 9223372036854775807 := by omega
  obtain ⟨P, hP⟩ : ∃ P, Kept (2 ^ h = P) := ⟨_, ⟨rfl⟩⟩
  have hPp : 0 < P := by rw [← hP.out]; exact Nat.two_pow_pos h
  obtain ⟨lo, hlo⟩ : ∃ lo, Kept (q * P = lo) := ⟨_, ⟨rfl⟩⟩
  have hin : lo + P ≤ n := by
    have := (block_within n h q).2 hq
    rw [hP.out, Nat.succ_mul, hlo.out] at this
    exact this
  have hw1 : IntKind.u64.wrap ((q : Int) * 2 ^ h) = (lo : Int) := by
    rw [natPow, hP.out, ← Int.natCast_mul, hlo.out, IntKind.wrap_u64]; omega
  have hw2 : IntKind.u64.wrap (((q : Int) + 1) * 2 ^ h) = ((lo + P : Nat) : Int) := by
    have e : ((q : Int) + 1) * 2 ^ h = ((lo + P : Nat) : Int) := by
      rw [natPow, hP.out, ← hlo.out, show ((q : Int) + 1) = ((q + 1 : Nat) : Int) from rfl, ← Int.natCast_mul, Nat.succ_mul]
    rw [e, IntKind.wrap_u64]; omega
  have hlen := hI.len
  have hcc := hI.le
  have hmx := hI.max
  obtain ⟨b, o, hAe, hcell⟩ := hI.cells.at_ (by
    intro e
    have := congrArg List.length e
    rw [strs_len, hlen] at this
    simp at this
    omega)
  subst hAe
  have hC := hI.cells.part lo P b o rfl
  rw [strs, ← List.map_drop, ← List.map_take] at hC
  have hC' : Cells w (some ⟨b, o + lo, none⟩) (strs ((xs.drop lo).take P)) := hC
  have hq40 : q < 1099511627776 := by
    have : q ≤ lo := by rw [← hlo.out]; exact Nat.le_mul_of_pos_right _ hPp
    omega
  have HT : Kept (∀ w1, Same w w1 → Calls Try.prog 85 #[.int .i64 k, .slice (some ⟨b, o + lo, none⟩) P (c - lo)] w1 fun e w' => e = .returned (.string (treeL k h ((xs.drop lo).take P))) ∧ Same w1 w') := ⟨fun w1 hw =>
    ptree_any k h b (o + lo) P (c - lo) ((xs.drop lo).take P) w1 hP.out.symm (by rw [List.length_take, List.length_drop]; omega) (by omega) (by omega) (hC'.same hw) (fun x hx => hz x (List.mem_of_mem_drop (List.mem_of_mem_take hx)))⟩
  have hT : Kept (treeL k h ((xs.drop lo).take P) = tree k (itsOf xs) h q) := ⟨by rw [tree_part, hP.out, hlo.out]⟩
  have hq0 : (0 : Int) ≤ (q : Int) := by omega
  have hlo0 : (0 : Int) ≤ (lo : Int) := by omega
  clear hcell hC hC' hI hz hq hn hlen
  go_enter Try.func40, Try.ntmps40
  go_wp2_with fail
  have q0 := hB.cell' (show [Value.int .i64 (h : Int), .int .u64 (q : Int)][0]? = some (.int .i64 (h : Int)) from rfl)
  have q1 := hB.cell' (show [Value.int .i64 (h : Int), .int .u64 (q : Int)][1]? = some (.int .u64 (q : Int)) from rfl)
  go_quiet (fail)
  have hB2 : Blk ((w.alloc (.cells #[.int .i64 (h : Int), .int .u64 (q : Int)] 45)).drewN nq) w.heap.size 45 [.int .i64 (h : Int), .int .u64 (q : Int)] := hB
  have hk2 := hk.drewN nq
  clear hB hk q0 q1
  generalize (w.alloc (.cells #[.int .i64 (h : Int), .int .u64 (q : Int)] 45)).drewN nq = w2 at *
  have q0 : w2.cell? ⟨w.heap.size, 0, none⟩ = some (.int .i64 (h : Int)) := hB2.cell' rfl
  have q1 : w2.cell? ⟨w.heap.size, 1, none⟩ = some (.int .u64 (q : Int)) := hB2.cell' rfl
  have hsub : lo + P - lo = P := by omega
  have hwq : IntKind.u64.wrap ((q : Int) + 1) = (q : Int) + 1 := by rw [IntKind.wrap_u64]; omega
  have hlp : (lo : Int) ≤ (lo : Int) + (P : Int) := by omega
  have hlc : (lo : Int) + (P : Int) ≤ (c : Int) := by omega
  go_wp2_with fail
  refine wp_region_still_tail 14 (by kernel_rfl) (by kernel_rfl) ?_
  simp only [List.take_succ_cons, List.take_zero, List.drop_succ_cons, List.drop_zero]
  repeat still_step
  try refine wpStill_nil ?_
  change wpList _ _ _ _ _ w2.drew
  go_wp2_with (go_at_call 85; (with_reducible refine (HT.out _ ?hsL).mono ?_); (case hsL => exact hk2.drew); rintro e w3 ⟨rfl, hs3⟩; rw [hT.out])
  go_ret2
  exact ⟨rfl, hk2.drew.trans hs3⟩


theorem StrsIn.pre {w : World} {A : Option Addr} {n c : Nat} {l : List ByteArray} (h : StrsIn w A n c l) (m : Nat) : StrsIn w A (l.take m).length c (l.take m) :=
  ⟨rfl, by have := h.cells.take m; rwa [strs, ← List.map_take] at this, by have := h.len; have := h.le; rw [List.length_take]; omega, h.max, fun e => by have := h.nil e; have := h.len; rw [List.length_take]; omega, fun x hx => h.size x (List.mem_of_mem_take hx)⟩
theorem StrsIn.drop {w : World} {b o n c : Nat} {xs : List ByteArray} (h : StrsIn w (some ⟨b, o, none⟩) n c xs) (P : Nat) (hP : P ≤ n) : StrsIn w (some ⟨b, o + P, none⟩) (n - P) (c - P) (xs.drop P) := by
  have hl := h.len
  have hle := h.le
  have hm := h.max
  refine ⟨by rw [List.length_drop]; omega, ?_, by omega, by omega, fun e => (by cases e), fun x hx => h.size x (List.mem_of_mem_drop hx)⟩
  have := h.cells.part P (n - P) b o rfl
  rw [show ((strs xs).drop P).take (n - P) = strs (xs.drop P) by
    rw [strs, strs, ← List.map_drop, ← List.map_take, List.take_of_length_le (by rw [List.length_drop]; omega)]] at this
  exact this

/-- what a call that makes a slice of texts gives -/
def RetStrs (w : World) (l : List ByteArray) (e : Ending) (w' : World) : Prop :=
  ∃ A c, e = .returned (.slice A l.length c) ∧ Own w' w.heap.size 9 1 A c l.length (strs l) ∧ Same w w'

set_option maxHeartbeats 2000000 in
theorem ppeaks_any (k : Int) (A : Option Addr) (n c : Nat) (xs : List ByteArray) (w : World) (hI : StrsIn w A n c xs) (hz : ∀ x ∈ xs, x.size ≤ 1152921504606846976) (hn : n ≤ 1099511627776) :
    Calls Try.prog 46 #[.int .i64 k, .slice A n c] w (RetStrs w (peaks k (itsOf xs) n)) := by
  have hlen := hI.len
  have Hz := Kept.mk hz
  clear hz
  go_enter Try.func46, Try.ntmps46
  go_wp2_with fail
  go_loopw [1, 5] (fun lv ov wr => ∃ (j m c1 co : Nat) (A1 Ao : Option Addr) (pk : List ByteArray), j ≤ 41 ∧ lv = .slice A1 m c1 ∧ ov = .slice Ao pk.length co ∧ Kept (m = n % 2 ^ j) ∧ m ≤ n ∧ StrsIn w A1 m c1 (xs.drop (n - m)) ∧
      Kept (peaks k (itsOf xs) n = pk ++ (mtsFrom n j).map fun b => tree k (itsOf xs) b.1 b.2) ∧ Own wr w.heap.size 9 1 Ao co pk.length (strs pk) ∧ Same w wr) (fun lv _ _ => match lv with | .slice _ m _ => m | _ => 0)
  case atStart =>
    refine ⟨41, n, c, 0, A, none, [], by omega, rfl, rfl, ⟨?_⟩, Nat.le_refl _, by rw [Nat.sub_self]; exact hI, ⟨rfl⟩, Own.none _ _ _ _, Keeps.refl _ _⟩
    rw [Nat.mod_eq_of_lt]; omega
  case round =>
    obtain ⟨j, m, c1, co, A1, Ao, pk, hj, rfl, rfl, hm, hmn, hI1, hpk, hO, hs⟩ := hrel
    by_cases hpos : 0 < m
    · obtain ⟨h, hhj, hp1, hp2, hsum, hnx⟩ := peaks_next k xs j (by omega) (by rw [hlen, ← hm.out]; exact hpos)
      rw [hlen, ← hm.out] at hp1 hp2 hsum hnx
      have hle1 := hI1.le
      have hmx := hI1.max
      obtain ⟨b, o, hAe, hcell⟩ := hI1.cells.at_ (by
        intro e
        have := congrArg List.length e
        rw [strs_len, hI1.len] at this
        simp at this
        omega)
      subst hAe
      have hpkl : pk.length ≤ 41 := by
        have := congrArg List.length hpk.out
        have h2 := mtsFrom_len n 41
        rw [List.length_append] at this
        unfold peaks mts at this
        rw [List.length_map] at this
        omega
      have hcm : (m : Int) ≤ 9223372036854775807 := by omega
      clear hcell
      go_wp2_with fail
      go_loopw [6] (fun nv wr' => ∃ g P : Nat, nv = .int .i64 P ∧ Kept (P = 2 ^ g) ∧ P ≤ m ∧ 0 < P ∧ wr' = wr) (fun nv _ => m - (intOf nv).toNat)
      case atStart => exact ⟨0, 1, rfl, ⟨rfl⟩, by omega, by omega, rfl⟩
      case round =>
        obtain ⟨g, P, rfl, hP, hPm, hPp, rfl⟩ := hrel
        have hm1 : m ≤ 1099511627776 := by omega
        by_cases h2 : 2 * P ≤ m
        · have t1 : decide (2 * (P : Int) ≤ (m : Int)) = true := decide_eq_true (by omega)
          go_wp2_with fail
          go_roundw
          case rel => exact ⟨g + 1, 2 * P, by congr 1; omega, ⟨by rw [hP.out, Nat.pow_succ]; omega⟩, h2, by omega, by first | rfl | trivial⟩
          case measure => simp [intOf]; omega
        · have t1 : decide (2 * (P : Int) ≤ (m : Int)) = false := decide_eq_false (by omega)
          have hgh : g = h := by
            have h3 : g < h + 1 := (Nat.pow_lt_pow_iff_right (a := 2) (by decide)).1 (by rw [← hP.out]; omega)
            have h4 : h < g + 1 := (Nat.pow_lt_pow_iff_right (a := 2) (by decide)).1 (by rw [Nat.pow_succ 2 g, ← hP.out]; omega)
            omega
          subst hgh
          rw [← hP.out] at hsum hnx hp1
          obtain ⟨T, hT⟩ : ∃ T, Kept (treeL k g ((xs.drop (n - m)).take P) = T) := ⟨_, ⟨rfl⟩⟩
          have hlk : ((xs.drop (n - m)).take P).length = P := by rw [List.length_take, hI1.len]; omega
          have HC := Kept.mk (ptree_any k g b o P c1 ((xs.drop (n - m)).take P) wr hP.out hlk (by omega) hmx ((hI1.pre P).cells.same hs) (fun x hx => Hz.out x (List.mem_of_mem_drop (List.mem_of_mem_take hx))))
          have Hpk : Kept (peaks k (itsOf xs) n = (pk ++ [T]) ++ (mtsFrom n g).map fun b => tree k (itsOf xs) b.1 b.2) := ⟨by rw [hpk.out, hnx, hT.out, List.append_assoc]; rfl⟩
          have Hm : Kept (m - P = n % 2 ^ g) := ⟨by rw [← hP.out]; omega⟩
          have hbO : (pk.length + 1) * 16 ≤ 140737488355328 := by omega
          clear hnx hlk hp1 hp2 hsum
          by_cases hcP : c1 = P
          · subst hcP
            obtain rfl : m = c1 := by omega
            go_wp2_with fail
            refine (HC.out).mono ?_
            rintro e w5 ⟨rfl, hs5⟩
            rw [hT.out]
            have hO5 := hO.same hs5
            have hs05 := hs.trans hs5
            have hsz5 : w.heap.size ≤ w5.heap.size := hs05.size
            go_wp2_with (at_builtin; refine append_one w.heap.size rfl _ _ 22 9 (.string ByteArray.empty) 1 16 rfl (by kernel_rfl) infoString rfl (by decide) (by decide) Ao co pk.length _ [.string T] rfl rfl rfl (by simp [Value.oneCell']) hO5 hsz5 hbO ?_; intro A2 c2 w6 hO6 hk6 hA6)
            go_roundw
            case rel =>
              refine ⟨g, 0, 0, c2, some ⟨b, o, none⟩, A2, pk ++ [T], by omega, rfl, by rw [List.length_append]; rfl, ⟨by have := Hm.out; omega⟩, by omega, ⟨by rw [List.length_drop]; omega, .inl ?_, by omega, by omega, fun _ => ⟨rfl, rfl⟩, fun x hx => hI.size x (List.mem_of_mem_drop hx)⟩, Hpk, ?_, hs05.then hk6 fun i hi hA => by have := (hO5.inA hA).1; omega⟩
              · rw [Nat.sub_zero, ← hlen, List.drop_length]; rfl
              · rw [List.length_append, strs, List.map_append]; exact hO6
            case measure => exact hpos
          · have hcP' : (c1 = P) = False := by simp [hcP]
            have Hcp := Kept.mk hcP
            clear hcP
            go_wp2_with fail
            refine (HC.out).mono ?_
            rintro e w5 ⟨rfl, hs5⟩
            rw [hT.out]
            have hO5 := hO.same hs5
            have hs05 := hs.trans hs5
            have hsz5 : w.heap.size ≤ w5.heap.size := hs05.size
            have hPm' : (P : Int) ≤ (m : Int) := by omega
            go_wp2_with (at_builtin; refine append_one w.heap.size rfl _ _ 22 9 (.string ByteArray.empty) 1 16 rfl (by kernel_rfl) infoString rfl (by decide) (by decide) Ao co pk.length _ [.string T] rfl rfl rfl (by simp [Value.oneCell']) hO5 hsz5 hbO ?_; intro A2 c2 w6 hO6 hk6 hA6)
            have hs06 : Same w w6 := hs05.then hk6 fun i hi hA => by have := (hO5.inA hA).1; omega
            go_roundw
            case rel =>
              refine ⟨g, m - P, c1 - P, c2, some ⟨b, o + P, none⟩, A2, pk ++ [T], by omega, rfl, by rw [List.length_append]; rfl, Hm, by omega, ?_, Hpk, ?_, hs06⟩
              · have h1 := hI1.drop P hPm
                rw [List.drop_drop, show n - m + P = n - (m - P) by omega] at h1
                exact h1
              · rw [List.length_append, strs, List.map_append]; exact hO6
            case measure => exact Nat.sub_lt hpos hPp
    · obtain rfl : m = 0 := by omega
      have hfin : Kept (peaks k (itsOf xs) n = pk) := ⟨by
        have h0 : (mtsFrom n j) = [] := mtsFrom_zero n j hm.out.symm
        rw [hpk.out, h0, List.map_nil, List.append_nil]⟩
      go_wp2_with fail
      go_ret
      exact ⟨Ao, co, by rw [hfin.out]; rfl, by rw [hfin.out]; exact hO, hs⟩

theorem peaks_congr (k : Int) (f g : Nat → ByteArray) (m : Nat) (h : ∀ i, i < m → f i = g i) : peaks k f m = peaks k g m := by
  unfold peaks
  exact List.map_congr_left fun b hb => tree_congr k f g m h b.1 b.2 (mtsFrom_in m 41 b hb)

set_option maxHeartbeats 1000000 in
theorem pRoot_any (k : Int) (A : Option Addr) (n c m : Nat) (xs : List ByteArray) (w : World) (hk : 1 ≤ k ∧ k ≤ 32) (hI : StrsIn w A n c xs) (hz : ∀ x ∈ xs, x.size ≤ 1152921504606846976) (hn : n ≤ 1099511627776) (hm : m ≤ n) :
    Calls Try.prog 41 #[.int .i64 k, .slice A n c, .int .u64 m] w fun e w' => e = .returned (.tuple #[rootV m (hroot k m (peaks k (itsOf xs) m)), .int .i64 0]) ∧ Same w w' := by
  have hc := check_any k (w.alloc (.cells #[.int .u64 0, .string ByteArray.empty] 34))
  rw [if_pos hk] at hc
  have Hc := Kept.mk hc
  clear hc
  have hB := Blk.new w 34 [.int .u64 0, .string ByteArray.empty]
  have hk1 := (Keeps.refl (fun _ => False) w).alloc (.cells #[.int .u64 0, .string ByteArray.empty] 34)
  have hlen := hI.len
  have hle := hI.le
  have hmx := hI.max
  have hnil := hI.nil
  have hIm := hI.pre m
  have hlm : (xs.take m).length = m := by rw [List.length_take]; omega
  rw [hlm] at hIm
  have HP : Kept (∀ w1, Same w w1 → Calls Try.prog 46 #[.int .i64 k, .slice A m c] w1 (RetStrs w1 (peaks k (itsOf xs) m))) := ⟨fun w1 hw => by
    have := ppeaks_any k A m c (xs.take m) w1 (hIm.keep hw) (fun x hx => hz x (List.mem_of_mem_take hx)) (by omega)
    rwa [peaks_congr k (itsOf (xs.take m)) (itsOf xs) m (fun i hi => itsOf_take xs m i hi)] at this⟩
  have Hpz : Kept (∀ x ∈ peaks k (itsOf xs) m, x.size ≤ 1152921504606846976) := ⟨peaks_size k (itsOf xs) m⟩
  have Hpl : Kept ((peaks k (itsOf xs) m).length ≤ 9223372036854775807) := ⟨by unfold peaks; rw [List.length_map]; have := mtsFrom_len m 41; unfold mts; omega⟩
  obtain ⟨pk, hpk⟩ : ∃ pk, Kept (peaks k (itsOf xs) m = pk) := ⟨_, ⟨rfl⟩⟩
  rw [hpk.out] at HP Hpz Hpl ⊢
  obtain ⟨d, hd⟩ : ∃ d, Kept (hroot k m pk = d) := ⟨_, ⟨rfl⟩⟩
  rw [hd.out]
  have t1 : decide (n < m) = false := decide_eq_false (by omega)
  have hnb : (n : Int) ≤ 9223372036854775807 := by omega
  have hmc : (m : Int) ≤ (c : Int) := by omega
  clear hI hIm hlen hnil hlm hz
  go_enter Try.func41, Try.ntmps41
  go_wp2_with (go_at_call 78; refine (Hc.out).mono ?_; rintro e w1 ⟨rfl, rfl⟩)
  refine (HP.out _ hk1).mono ?_
  rintro e w2 ⟨A2, c2, rfl, hO2, hs2⟩
  have hB2 := hs2.blk hB (fun f => f)
  have hC2 := hO2.cells
  go_wp2_with fail
  refine (hroot_any _ _ _ _ pk _ Hpl.out Hpz.out hC2).mono ?_
  rintro e w3 ⟨rfl, hs3⟩
  rw [hd.out]
  have hB3 := hs3.blk hB2 (fun f => f)
  have hs03 := (hk1.trans hs2).trans hs3
  go_wp2_with (refine wpList_store_blk rfl 34 _ _ rfl w.heap.size [.int .u64 m, .string d] rfl rfl 34 _ hB3 (by kernel_rfl) rfl (by simp [Value.oneCell']) ?_; intro w4 hR4 hk4 _)
  have r0 : w4.cell? ⟨w.heap.size, 0, none⟩ = some (.int .u64 m) := hR4.cell' rfl
  have r1 : w4.cell? ⟨w.heap.size, 1, none⟩ = some (.string d) := hR4.cell' rfl
  refine bodyPost_ret (v := .tuple #[rootV m d, .int .i64 0]) ?_ rfl ⟨rfl, hs03.then hk4 fun i hi e => by omega⟩
  simp [results, Try.results41, go_sem, r0, r1, rootV]
end Go.Proofs.Ytkokagbmmlngjaa
