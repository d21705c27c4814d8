/- The walks of package sha up to turn: RotateLeft32, turn: what each comes to. -/
import Derived.Test.YtkokagbmmlngjaaProg
import Derived.Test.YtkokagbmmlngjaaShaP
namespace Go.Proofs.Ytkokagbmmlngjaa
open Go.RowKit

set_option maxHeartbeats 400000 in
theorem rot_any (x k : Int) (w : World) (hk : -32 < k) (hk' : k < 0):
    Calls Try.prog 148 #[.int .u32 x, .int .i64 k] w fun e w' => e = .returned (.int .u32 (rotk x k)) ∧ w' = w := by
  have hb := and31 k hk hk'
  have hk1 : 0 ≤ 32 + k := by omega
  have hk2 : 0 ≤ 32 - (32 + k) := by omega
  go_enter Try.func148, Try.ntmps148
  go_wp2
  go_ret
  refine ⟨?_, rfl⟩
  show Ending.returned (.int .u32 _) = _
  unfold rotk
  rw [show 32 - (32 + k) = -k by omega]

theorem rot_any' (x k : Int) (w : World) (hk : -32 < k) (hk' : k < 0):
    Calls Try.prog 148 #[.int .u32 x, .int .i64 k] w fun e w' => e = .returned (.int .u32 (rotk x k)) ∧ w = w' :=
  (rot_any x k w hk hk').mono fun _ _ ⟨h, h'⟩ => ⟨h, h'.symm⟩

set_option maxRecDepth 100000 in
set_option maxHeartbeats 8000000 in
/-- the relation of turn's second loop: the words so far -/
theorem turn_any (h k : Nat) (st bl ks : List Int) (fill size : Int) (w : World) (hst : st.length = 8) (hbl : bl.length = 64)
   (hks : ks.length = 64) (hb : Blk w h 189 (hashCells st bl fill size)) (hk : Blk w k 190 (w32 ks)) :
    Calls Try.prog 143 #[.pointer (some ⟨h, 0, none⟩), .pointer (some ⟨k, 0, none⟩)] w fun e w' => e = .returned (.tuple #[]) ∧ Keeps (· = h) w w' ∧ Blk w' h 189 (hashCells (comp ks st bl) bl 0 size) := by
  go_enter Try.func143, Try.ntmps143
  go_wp2
  go_loopw [24] (fun t wr => ∃ k : Nat, k ≤ 16 ∧ t = .int .i64 k ∧ Same w wr ∧ Blk wr w.heap.size 190 (w32 (ph1 bl k))) (fun t _ => 16 - (intOf t).toNat)
  case atStart =>
    refine ⟨0, by omega, rfl, (Keeps.refl _ _).alloc _, ?_⟩
    exact Blk.new w 190 (w32 (List.replicate 64 0))
  case round =>
    obtain ⟨t, ht, rfl, hsame, hW⟩ := hrel
    by_cases hlt : t < 16
    · 
      have hsl := fun W => sliceAt_arr (P := Try.prog) (t := 187) (e := 5) (n := 64) (s := 1) (by kernel_rfl) (by kernel_rfl) h 8 (4 * t) (4 * t + 4) (4 * (t : Int)) (4 * (t : Int) + 4) (by omega) (by omega) (by omega) (by omega) (by omega) W
      have hlen : (4 * t + 4 - 4 * t) = 4 := by omega
      rw [hlen, Nat.mul_one] at hsl
      clear hlen
      obtain ⟨wo, rfl⟩ : ∃ wo : World, wo = wr := ⟨_, rfl⟩
      go_wp2
      go_loopw [37] (fun i wr => ∃ j : Nat, j ≤ 4 ∧ i = .int .i64 j ∧ Same w wr ∧ Blk wr w.heap.size 190 (w32 ((ph1 bl t).set t (wordN bl t j)))) (fun i _ => 4 - (intOf i).toNat)
      case atStart =>
        refine ⟨0, by omega, rfl, hsame, ?_⟩
        have : (ph1 bl t).set t (wordN bl t 0) = ph1 bl t := by
          apply List.ext_getElem?
          intro i
          by_cases hi : i = t
          · subst hi
            rw [List.getElem?_set_self (by rw [ph1_len]; omega), gi_some _ _ (by rw [ph1_len]; omega), ph1_at bl i i (Nat.le_refl _) (by omega)]
            rfl
          · rw [List.getElem?_set_ne (by omega)]
        rw [this]; exact hW
      case round =>
        obtain ⟨j, hj, rfl, hsame1, hW1⟩ := hrel
        by_cases hlt : j < 4
        · have hbb := hsame1.blk hb (fun f => f)
          have hc1 : wr.cell? ⟨h, 8 + 4 * t + j, none⟩ = some (.int .u8 (gi bl (4 * t + j))) := by
            have := hbb.cell' (hashCells_bl st bl fill size hst hbl (4 * t + j) (by omega))
            rw [← Nat.add_assoc] at this; exact this
          have hc2 : wr.cell? ⟨w.heap.size, t, none⟩ = some (.int .u32 (wordN bl t j)) := by
            apply hW1.cell'
            simp [w32, ph1_len, show t < 64 by omega]
          have hf := hW1.frozen t
          go_wp2
          go_roundw
          case rel =>
            refine ⟨j + 1, by omega, by go_num, hsame1.setCell (.inr (Nat.le_refl _)) _, ?_⟩
            have := hW1.set t (.int .u32 (wordN bl t (j + 1)))
            rw [w32_set, List.set_set] at this
            exact this
          case measure => simp [intOf]; omega
        · obtain rfl : j = 4 := by omega
          go_wp2
          go_roundw
          case rel => exact ⟨t + 1, by omega, by go_num, hsame1, hW1⟩
          case measure => simp [intOf]; omega
    · obtain rfl : t = 16 := by omega
      go_wp2
      rw [show ((16 : Nat) : Int) = 16 from rfl]
      go_loopw [8] (fun t wr => ∃ k : Nat, 16 ≤ k ∧ k ≤ 64 ∧ t = .int .i64 k ∧ Same w wr ∧ Blk wr w.heap.size 190 (w32 (ph2 bl (k - 16)))) (fun t _ => 64 - (intOf t).toNat)
      case atStart => exact ⟨16, by omega, by omega, rfl, hsame, hW⟩
      case round =>
        obtain ⟨t, ht0, ht, rfl, hsame, hW⟩ := hrel
        by_cases hlt : t < 64
        · 
          obtain ⟨ws, hws⟩ : ∃ ws, Kept (ph2 bl (t - 16) = ws) := ⟨_, ⟨rfl⟩⟩
          rw [hws.out] at hW
          have hwl : Kept (ws.length = 64) := ⟨by rw [← hws.out]; exact ph2_len _ _⟩
          have hcell : ∀ i, i < 64 → wr.cell? ⟨w.heap.size, i, none⟩ = some (.int .u32 (gi ws i)) := fun i hi => hW.cell' (w32_at _ _ (by rw [hwl.out]; exact hi))
          have c15 := hcell (t - 15) (by omega)
          have c2 := hcell (t - 2) (by omega)
          have c16 := hcell (t - 16) (by omega)
          have c7 := hcell (t - 7) (by omega)
          clear hcell
          go_wp2_with fail
          go_quiet (fail)
          have c16' : (wr.drewN nq).cell? ⟨w.heap.size, t - 16, none⟩ = some (.int .u32 (gi ws (t - 16))) := c16
          have c7' : (wr.drewN nq).cell? ⟨w.heap.size, t - 7, none⟩ = some (.int .u32 (gi ws (t - 7))) := c7
          have hf : (wr.drewN nq).frozen? ⟨w.heap.size, t, none⟩ = false := hW.frozen t
          have hW2 : Blk (wr.drewN nq) w.heap.size 190 (w32 ws) := hW
          have hs2 : Same w (wr.drewN nq) := hsame.drewN _
          generalize wr.drewN nq = w2 at *
          go_wp2_with fail
          have e16 : IntKind.i64.wrap ((t : Int) - 16) = (t : Int) - 16 := IntWalk.i64_in _ (by omega)
          have e7 : IntKind.i64.wrap ((t : Int) - 7) = (t : Int) - 7 := IntWalk.i64_in _ (by omega)
          have n16 : ((t : Int) - 16).toNat = t - 16 := by omega
          have n7 : ((t : Int) - 7).toNat = t - 7 := by omega
          have p16 : 16 ≤ (t : Int) := by omega
          have p7 : 7 ≤ (t : Int) := by omega
          have q16 : (t : Int) - 16 < 64 := by omega
          have q7 : (t : Int) - 7 < 64 := by omega
          refine wp_region_still_tail 29 (by kernel_rfl) (by kernel_rfl) ?_
          simp only [List.take_succ_cons, List.take_zero, List.drop_succ_cons, List.drop_zero]
          repeat (first | still_step | still_call (rot_any _ _ _ (by decide) (by decide)))
          try refine wpStill_nil ?_
          change wpList _ _ _ _ _ w2.drew
          have hf3 : w2.drew.frozen? ⟨w.heap.size, t, none⟩ = false := hf
          have hW3 : Blk w2.drew w.heap.size 190 (w32 ws) := hW2
          have hs3 : Same w w2.drew := hs2.drew
          have c3 : w2.drew.cell? ⟨w.heap.size, t, none⟩ = some (.int .u32 (gi ws t)) := hW2.cell' (w32_at _ _ (by rw [hwl.out]; omega))
          generalize w2.drew = w3 at *
          clear e16 e7 n16 n7 p16 p7 q16 q7 c16' c7' c15 c2 c16 c7 hW2 hs2 hf
          go_wp2_with fail
          go_roundw
          case rel =>
            refine ⟨t + 1, by omega, by omega, by go_num, hs3.setCell (.inr (Nat.le_refl _)) _, ?_⟩
            have := hW3.set t (.int .u32 (sched ws t))
            rw [w32_set] at this
            have e2 : ph2 bl (t + 1 - 16) = ws.set t (sched ws t) := by
              obtain ⟨d, rfl⟩ : ∃ d, t = 16 + d := ⟨t - 16, by omega⟩
              rw [show 16 + d + 1 - 16 = d + 1 by omega, ph2, ← hws.out, show 16 + d - 16 = d by omega]
            rw [e2]
            exact this
          case measure => simp [intOf]; omega
        · obtain rfl : t = 64 := by omega
          go_wp2_with fail
          rw [show ((64 : Nat) : Int) = 64 from rfl]
          have hbb := hsame.blk hb (fun f => f)
          have hbk := hsame.blk hk (fun f => f)
          have hst0 : ∀ i, i < 8 → wr.cell? ⟨h, i, none⟩ = some (.int .u32 (gi st i)) := fun i hi => hbb.cell' (hashCells_st st bl fill size hst i hi)
          have s0 := hst0 0 (by omega)
          have s1 := hst0 1 (by omega)
          have s2 := hst0 2 (by omega)
          have s3 := hst0 3 (by omega)
          have s4 := hst0 4 (by omega)
          have s5 := hst0 5 (by omega)
          have s6 := hst0 6 (by omega)
          have s7 := hst0 7 (by omega)
          clear hst0
          go_quiet (fail)
          clear s0 s1 s2 s3 s4 s5 s6 s7
          have hsame := hsame.drewN nq
          have hW := hW.drewN nq
          have hbb := hbb.drewN nq
          have hbk := hbk.drewN nq
          generalize wr.drewN nq = w4 at *
          go_wp2_with fail
          obtain ⟨ws, hws⟩ : ∃ ws, Kept (ph2 bl 48 = ws) := ⟨_, ⟨rfl⟩⟩
          rw [show (64 - 16) = 48 from rfl, hws.out] at hW
          have hwl : Kept (ws.length = 64) := ⟨by rw [← hws.out]; exact ph2_len _ _⟩
          obtain ⟨rs, hrs⟩ : ∃ rs, Kept (rnd st ks ws = rs) := ⟨_, ⟨rfl⟩⟩
          have hr0 : Kept (rs 0 = st) := ⟨by rw [← hrs.out]; rfl⟩
          have hr1 : Kept (∀ n, rs (n + 1) = stepR (rs n) (gi ks n) (gi ws n)) := ⟨by rw [← hrs.out]; exact fun _ => rfl⟩
          go_loopw [11, 12, 13, 14, 15, 16, 17, 18, 133] (fun a b c d e f g i t wr => ∃ n : Nat, n ≤ 64 ∧ t = .int .i64 n ∧ Same w wr ∧ Blk wr w.heap.size 190 (w32 ws) ∧
              a = .int .u32 (gi (rs n) 0) ∧ b = .int .u32 (gi (rs n) 1) ∧ c = .int .u32 (gi (rs n) 2) ∧ d = .int .u32 (gi (rs n) 3) ∧
              e = .int .u32 (gi (rs n) 4) ∧ f = .int .u32 (gi (rs n) 5) ∧ g = .int .u32 (gi (rs n) 6) ∧ i = .int .u32 (gi (rs n) 7)) (fun _ _ _ _ _ _ _ _ t _ => 64 - (intOf t).toNat)
          case atStart => rw [← hr0.out]; exact ⟨0, by omega, rfl, hsame, hW, rfl, rfl, rfl, rfl, rfl, rfl, rfl, rfl⟩
          case round =>
            obtain ⟨n, hn, rfl, hsame, hW, rfl, rfl, rfl, rfl, rfl, rfl, rfl, rfl⟩ := hrel
            by_cases hlt : n < 64
            · 
              obtain ⟨s, hs⟩ : ∃ s, Kept (rs n = s) := ⟨_, ⟨rfl⟩⟩
              rw [hs.out]
              have cw : wr.cell? ⟨w.heap.size, n, none⟩ = some (.int .u32 (gi ws n)) := hW.cell' (w32_at _ _ (by rw [hwl.out]; exact hlt))
              have ck : wr.cell? ⟨k, n, none⟩ = some (.int .u32 (gi ks n)) := (hsame.blk hk (fun f => f)).cell' (w32_at _ _ (by rw [hks]; exact hlt))
              go_wp2_with fail
              go_quiet ((go_at_call 148; exact Calls.quiet_of_same (rot_any _ _ _ (by decide) (by decide))))
              clear cw ck
              have hsame := hsame.drewN nq
              have hW := hW.drewN nq
              generalize wr.drewN nq = w5 at *
              go_wp2_with (go_at_call 148; refine (rot_any' _ _ _ (by decide) (by decide)).mono ?_; rintro e w' ⟨rfl, rfl⟩)
              go_roundw
              case rel =>
                have hn1 : rs (n + 1) = stepR s (gi ks n) (gi ws n) := by rw [hr1.out, hs.out]
                refine ⟨n + 1, by omega, by go_num, hsame, hW, ?_⟩
                rw [hn1]
                exact ⟨rfl, rfl, rfl, rfl, rfl, rfl, rfl, rfl⟩
              case measure => simp [intOf]; omega
            · obtain rfl : n = 64 := by omega
              obtain ⟨v, hv⟩ : ∃ v, Kept (rs 64 = v) := ⟨_, ⟨rfl⟩⟩
              rw [hv.out]
              go_wp2_with fail
              rw [show ((64 : Nat) : Int) = 64 from rfl]
              go_loopw [207] (fun t wr => ∃ n : Nat, n ≤ 8 ∧ t = .int .i64 n ∧ Keeps (· = h) w wr ∧ Blk wr h 189 (hashCells (addN st v n) bl fill size)) (fun t _ => 8 - (intOf t).toNat)
              case atStart => exact ⟨0, by omega, rfl, hsame.of_same, hsame.blk hb (fun f => f)⟩
              case round =>
                obtain ⟨n, hn, rfl, hkeep, hB⟩ := hrel
                by_cases hlt : n < 8
                · have hix : ∀ W, (Instr.index 186 (.agg #[.int .u32 (gi v 0), .int .u32 (gi v 1), .int .u32 (gi v 2), .int .u32 (gi v 3), .int .u32 (gi v 4), .int .u32 (gi v 5), .int .u32 (gi v 6), .int .u32 (gi v 7)]) (.int .i64 n)).run Try.prog W = .ok (.int .u32 (gi v n)) W := by
                    intro W
                    have : n = 0 ∨ n = 1 ∨ n = 2 ∨ n = 3 ∨ n = 4 ∨ n = 5 ∨ n = 6 ∨ n = 7 := by omega
                    rcases this with rfl | rfl | rfl | rfl | rfl | rfl | rfl | rfl <;> rfl
                  obtain ⟨s, hs⟩ : ∃ s, Kept (addN st v n = s) := ⟨_, ⟨rfl⟩⟩
                  rw [hs.out] at hB
                  have hsl : Kept (s.length = 8) := ⟨by rw [← hs.out]; exact addN_len _ _ hst _⟩
                  have cs : wr.cell? ⟨h, n, none⟩ = some (.int .u32 (gi s n)) := hB.cell' (hashCells_st s bl fill size hsl.out n hlt)
                  have hf := hB.frozen n
                  have hn8 : (n : Int) < 8 := by omega
                  go_wp2_with fail
                  refine wp_region_still_tail 11 (by kernel_rfl) (by kernel_rfl) ?_
                  simp only [List.take_succ_cons, List.take_zero, List.drop_succ_cons, List.drop_zero]
                  repeat still_step
                  try refine wpStill_nil ?_
                  change wpList _ _ _ _ _ wr.drew
                  have hf3 : wr.drew.frozen? ⟨h, n, none⟩ = false := hf
                  have hB3 : Blk wr.drew h 189 (hashCells s bl fill size) := hB
                  have hk3 := hkeep.drew
                  have c3 : wr.drew.cell? ⟨h, n, none⟩ = some (.int .u32 (gi s n)) := cs
                  clear hf cs hB hkeep hix
                  generalize wr.drew = w3 at *
                  go_wp2_with fail
                  go_roundw
                  case rel =>
                    refine ⟨n + 1, by omega, by go_num, hk3.setCell (.inl rfl) _, ?_⟩
                    have := hB3.set n (.int .u32 ((gi s n + gi v n) % 4294967296))
                    rw [hashCells_setSt s bl fill size hsl.out n hlt] at this
                    have e2 : addN st v (n + 1) = s.set n ((gi s n + gi v n) % 4294967296) := by rw [addN, hs.out]
                    rw [e2]
                    exact this
                  case measure => simp [intOf]; omega
                · obtain rfl : n = 8 := by omega
                  have hsl : (addN st v 8).length = 8 := addN_len _ _ hst _
                  have cs : wr.cell? ⟨h, 72, none⟩ = some (.int .i64 fill) := hB.cell' (hashCells_fill _ bl fill size hsl hbl)
                  have hf := hB.frozen 72
                  have hfin := hB.set 72 (.int .i64 0)
                  rw [hashCells_setFill _ _ _ _ hsl hbl] at hfin
                  have hcomp : Kept (comp ks st bl = addN st v 8) := ⟨by rw [← hv.out, ← hrs.out, ← hws.out]; rfl⟩
                  have hk3 := hkeep.setCell (p := ⟨h, 72, none⟩) (.inl rfl) (.int .i64 0)
                  go_wp2_with fail
                  go_end0
                  exact ⟨rfl, hk3, by rw [hcomp.out]; exact hfin⟩
end Go.Proofs.Ytkokagbmmlngjaa
