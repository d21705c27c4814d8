/- ForestPlain: what it computes is true. -/
import Derived.Test.YtkokagbmmlngjaaPlain
import Derived.Test.YtkokagbmmlngjaaHelp10
namespace Go.Proofs.Ytkokagbmmlngjaa
open Go.RowKit
set_option maxRecDepth 100000

theorem Own.strsIn {w : World} {base : Nat} {A : Option Addr} {c : Nat} {xs : List ByteArray} (h : Own w base 9 1 A c xs.length (strs xs)) (hz : ∀ x ∈ xs, x.size ≤ 9223372036854775807) : StrsIn w A xs.length c xs := by
  refine ⟨rfl, h.cells, ?_, ?_, ?_, hz⟩
  · rcases h.2 with ⟨hv, h0⟩ | ⟨g, cap, cur, hv, hb, hg, h1, h2, h3, h4⟩
    · omega
    · simp only [Value.slice.injEq] at hv
      rw [hv.2.2]; exact h1
  · rcases h.2 with ⟨hv, h0⟩ | ⟨g, cap, cur, hv, hb, hg, h1, h2, h3, h4⟩
    · simp only [Value.slice.injEq] at hv
      omega
    · simp only [Value.slice.injEq] at hv
      rw [hv.2.2]; exact h2
  · intro e
    subst e
    rcases h.2 with ⟨hv, h0⟩ | ⟨g, cap, cur, hv, _⟩
    · simp only [Value.slice.injEq] at hv
      exact ⟨h0, hv.2.2⟩
    · simp only [Value.slice.injEq] at hv
      cases hv.1

set_option maxHeartbeats 8000000 in
theorem plain10_any (k : Int) (A : Option Addr) (n c : Nat) (l : List ByteArray) (cut : Int) (w : World) (hI : StrsIn w A n c l) :
    Calls Try.prog 7 #[.int .i64 k, .slice A n c, .int .i64 cut] w fun e w' => e = .returned (.bool true) ∧ Same w w' := by
  obtain ⟨k1, hk1⟩ : ∃ k1, Kept (strengthOf k = k1 ∧ 1 ≤ k1 ∧ k1 ≤ 32) := ⟨_, ⟨rfl, strengthOf_range k⟩⟩
  obtain ⟨L, hL⟩ : ∃ L, Kept (l.take 70 = L) := ⟨_, ⟨rfl⟩⟩
  have hL70 : L.length ≤ 70 := by rw [← hL.out, List.length_take]; omega
  have hIL := hI.take 70
  rw [hL.out] at hIL
  go_enter Try.func7, Try.ntmps7
  go_wp2_with fail
  refine (alive10_any _).mono ?_
  rintro e w1 ⟨rfl, hs1⟩
  have hI1 := hI.keep hs1
  have hIL1 := hIL.keep hs1
  go_wp2_with (first
    | (go_at_call 17; refine (strength10_any _ _).mono ?_; rintro e w' ⟨rfl, rfl⟩; rw [hk1.out.1])
    | (go_at_call 18; refine (few10_any _ _ _ l _ hI1).mono ?_; rintro e w' ⟨rfl, rfl⟩; rw [hL.out]))
  refine (grown10_any k1 A L.length c L (itsOf (takenOf L)) w1 hk1.out.2 hIL1 (by omega) (fun _ _ => rfl)).mono ?_
  rintro e w2 ⟨bf1, bm1, D, cd, rfl, hbf1, hbm1, hF2, hD2, hD2n, hs2⟩
  have hm70 : (takenOf L).length ≤ 70 := Nat.le_trans (takenOf_le L) hL70
  have hfit : Kept (∀ x ∈ takenOf L, x.size ≤ 1048576) := ⟨taken_fit L⟩
  generalize takenOf L = T at *
  obtain ⟨its, hits⟩ : ∃ its, Kept (itsOf T = its) := ⟨_, ⟨rfl⟩⟩
  rw [hits.out] at hF2
  have hT2 : StrsIn w2 D T.length cd T := hD2.strsIn (fun x hx => by have := hfit.out x hx; omega)
  have hs02 := hs1.trans hs2
  obtain ⟨m, hm⟩ : ∃ m : Nat, Kept ((m : Int) = cut % 18446744073709551616 % ((T.length : Int) + 1)) := ⟨(cut % 18446744073709551616 % ((T.length : Int) + 1)).toNat, ⟨by rw [Int.toNat_of_nonneg (Int.emod_nonneg _ (by omega))]⟩⟩
  have hmT : m ≤ T.length := by
    have h1 := hm.out
    have h2 := Int.emod_lt_of_pos (cut % 18446744073709551616) (show (0 : Int) < (T.length : Int) + 1 by omega)
    omega
  have hv : (IntKind.u64.wrap cut).tmod ((T.length : Int) + 1) = (m : Int) := by
    rw [IntKind.wrap_u64, Int.tmod_eq_emod_of_nonneg (by omega), hm.out]
  have hTc := hT2.le
  have hmc : (m : Int) ≤ (cd : Int) := by omega
  clear hI1 hIL1 hD2 hIL
  have hall : takenOf (T.take m) = T.take m := taken_all _ (fun x hx => hfit.out x (List.mem_of_mem_take hx))
  have hlm : (T.take m).length = m := by rw [List.length_take]; omega
  have hTm := hT2.take m
  rw [hlm] at hTm
  have HG := Kept.mk (grown10_any k1 D m cd (T.take m) its w2 hk1.out.2 hTm (by omega) (fun i hi => by
    rw [hall] at hi ⊢
    rw [hlm] at hi
    rw [← hits.out, itsOf_take T m i hi]))
  have Hall := Kept.mk hall
  have Hlm := Kept.mk hlm
  have Hz : Kept (∀ x ∈ T, x.size ≤ 1152921504606846976) := ⟨fun x hx => by have := hfit.out x hx; omega⟩
  clear hall hlm hTm
  go_wp2_with fail
  refine (HG.out).mono ?_
  rintro e w3 ⟨bf2, bm2, E, ce, rfl, hbf2, hbm2, hG3, _, _, hs3⟩
  rw [Hall.out, Hlm.out] at hG3 ⊢
  have hF3 := hF2.same hs3
  have hT3 := hT2.keep hs3
  have hs03 := hs02.trans hs3
  clear hF2 hT2 hs02 hs3 HG hv
  go_wp2_with fail
  go_loopw [14] (fun iv wr => ∃ i : Nat, i ≤ T.length + 1 ∧ iv = .int .i64 i ∧ Same w3 wr) (fun iv _ => T.length + 1 - (intOf iv).toNat)
  case atStart => exact ⟨0, Nat.zero_le _, rfl, Keeps.refl _ _⟩
  case round =>
    obtain ⟨i, hi, rfl, hs⟩ := hrel
    have hFr := hF3.same hs
    have hGr := hG3.same hs
    have hTr := hT3.keep hs
    by_cases hlt : i ≤ T.length
    · have t1 : decide (i ≤ T.length) = true := decide_eq_true hlt
      obtain ⟨d, hd⟩ : ∃ d, Kept (hroot k1 i (peaks k1 its i) = d) := ⟨_, ⟨rfl⟩⟩
      go_wp2_with fail
      refine (froot_any bf1 bm1 k1 its T.length i wr hFr hlt).mono ?_
      rintro e w5 ⟨rfl, hs5⟩
      rw [hd.out]
      unfold rootV
      have hB5 := Blk.new w5 34 [.int .u64 (i : Int), .string d]
      have hk5 := hs5.alloc (.cells #[.int .u64 (i : Int), .string d] 34)
      have hT5 := hTr.keep hk5
      go_wp2_with fail
      have hp := pRoot_any k1 D T.length cd i T _ hk1.out.2 hT5 Hz.out (by omega) hlt
      rw [hits.out, hd.out] at hp
      have Hp := Kept.mk hp
      clear hp
      refine (Hp.out).mono ?_
      rintro e w6 ⟨rfl, hs6⟩
      unfold rootV
      have hk6 := (Keeps.refl (fun _ => False) w6).alloc (.cells #[.int .u64 (i : Int), .string d] 34)
      have hB6 := hk6.blk (hs6.blk hB5 (fun f => f)) (fun f => f)
      have hs06 := (hk5.trans hs6).trans hk6
      have hG6 := hGr.same hs06
      have q0 := hB6.cell' (show [Value.int .u64 (i : Int), .string d][0]? = some (.int .u64 (i : Int)) from rfl)
      have q1 := hB6.cell' (show [Value.int .u64 (i : Int), .string d][0 + 1]? = some (.string d) from rfl)
      by_cases him : i ≤ m
      · have t2 : decide (i ≤ m) = true := decide_eq_true him
        go_wp2_with (go_at_call 20; refine (num10_any _ _).mono ?_; rintro e w' ⟨rfl, rfl⟩)
        refine (froot_any bf2 bm2 k1 its m i _ hG6 him).mono ?_
        rintro e w7 ⟨rfl, hs7⟩
        rw [hd.out]
        unfold rootV
        have hk7 := (Keeps.refl (fun _ => False) w7).alloc (.cells #[.int .u64 (i : Int), .string d] 34)
        have r0 := (hs7.trans hk7).cell' q0 (fun f => f)
        have r1 := (hs7.trans hk7).cell' q1 (fun f => f)
        have hs07 := (hs.trans hs06).trans (hs7.trans hk7)
        clear q0 q1
        go_wp2_with (go_at_call 20; refine (num10_any _ _).mono ?_; rintro e w' ⟨rfl, rfl⟩)
        go_roundw
        case rel => exact ⟨i + 1, by omega, by go_num, hs07⟩
        case measure => simp [intOf]; omega
      · have t2 : decide (i ≤ m) = false := decide_eq_false him
        go_wp2_with (go_at_call 20; refine (num10_any _ _).mono ?_; rintro e w' ⟨rfl, rfl⟩)
        go_roundw
        case rel => exact ⟨i + 1, by omega, by go_num, hs.trans hs06⟩
        case measure => simp [intOf]; omega
    · have t1 : decide (i ≤ T.length) = false := decide_eq_false hlt
      have hs04 := hs03.trans hs
      clear hF3 hG3 hT3 hs03 hs hlt hi hGr
      go_wp2_with fail
      obtain ⟨w4, rfl⟩ : ∃ z : World, z = wr := ⟨_, rfl⟩
      go_loopw [21] (fun hv wr => ∃ h : Nat, h ≤ 8 ∧ hv = .int .i64 h ∧ Same w4 wr) (fun hv _ => 8 - (intOf hv).toNat)
      case atStart => exact ⟨0, Nat.zero_le _, rfl, Keeps.refl _ _⟩
      case round =>
        obtain ⟨h, hh, rfl, hs⟩ := hrel
        by_cases hlt : h < 8
        · have t8 : decide ((h : Int) < 8) = true := decide_eq_true (by omega)
          obtain ⟨Q, hQ⟩ : ∃ Q, Kept (T.length / 2 ^ h = Q) := ⟨_, ⟨rfl⟩⟩
          have hdq : (T.length : Int) / 2 ^ h = (Q : Int) := by rw [intDiv, hQ.out]
          have hQb : Q ≤ 70 := by rw [← hQ.out]; have := Nat.div_le_self T.length (2 ^ h); omega
          go_wp2_with fail
          go_loopw [22] (fun iv wr => ∃ i : Nat, i ≤ Q + 1 ∧ iv = .int .u64 i ∧ Same w4 wr) (fun iv _ => Q + 1 - (intOf iv).toNat)
          case atStart => exact ⟨0, Nat.zero_le _, rfl, hs⟩
          case round =>
            clear hs
            obtain ⟨i, hi, rfl, hs⟩ := hrel
            have hFz := hFr.same hs
            have hTz := hTr.keep hs
            by_cases hle : i ≤ Q
            · have t2 : decide (i ≤ Q) = true := decide_eq_true hle
              go_wp2_with fail
              have hk5 := (Keeps.refl (fun _ => False) wr).alloc (.cells #[.int .i64 (h : Int), .int .u64 (i : Int)] 45)
              have hB5 := Blk.new wr 45 [.int .i64 (h : Int), .int .u64 (i : Int)]
              have hF5 := hFz.same hk5
              have hfd := fdig_nat k1 its T.length h i
              refine (fdigest_any bf1 bm1 k1 its T.length h i _ hF5).mono ?_
              rintro e w6 ⟨rfl, hs6⟩
              have hB6 := hs6.blk hB5 (fun f => f)
              have q0 := hB6.cell' (show [Value.int .i64 (h : Int), .int .u64 (i : Int)][0]? = some (.int .i64 (h : Int)) from rfl)
              have q1 := hB6.cell' (show [Value.int .i64 (h : Int), .int .u64 (i : Int)][0 + 1]? = some (.int .u64 (i : Int)) from rfl)
              have hT6 := (hTz.keep hk5).keep hs6
              have hs06 := (hs.trans hk5).trans hs6
              by_cases hin : i < Q
              · rw [hQ.out, if_pos hin] at hfd
                rw [hfd]
                obtain ⟨D1, hD1⟩ : ∃ D1, Kept (tree k1 its h i = D1) := ⟨_, ⟨rfl⟩⟩
                have HT := Kept.mk (pTree_yes k1 D T.length cd h i T w6 (by omega) hT6 Hz.out (by omega) (by rw [hQ.out]; exact hin))
                rw [hits.out, hD1.out] at HT
                rw [hD1.out]
                clear hfd
                go_wp2_with fail
                refine (HT.out).mono ?_
                rintro e w7 ⟨rfl, hs7⟩
                go_wp2_with fail
                go_roundw
                case rel => exact ⟨i + 1, by omega, by go_num, hs06.trans hs7⟩
                case measure => simp [intOf]; omega
              · rw [hQ.out, if_neg hin] at hfd
                rw [hfd]
                have HT := Kept.mk (pTree_no k1 D T.length cd h i w6 (by omega) (by omega) (by rw [hQ.out]; omega))
                clear hfd
                go_wp2_with fail
                refine (HT.out).mono ?_
                rintro e w7 ⟨rfl, hs7⟩
                go_wp2_with fail
                go_roundw
                case rel => exact ⟨i + 1, by omega, by go_num, hs06.trans hs7⟩
                case measure => simp [intOf]; omega
            · have t2 : decide (i ≤ Q) = false := decide_eq_false hle
              go_wp2_with fail
              go_roundw
              case rel => exact ⟨h + 1, by omega, by go_num, hs⟩
              case measure => simp [intOf]; omega
        · obtain rfl : h = 8 := by omega
          go_wp2_with fail
          go_ret
          exact ⟨rfl, hs04.trans hs⟩

theorem walk_ForestPlain (a0 : Int) (a1 : Option Addr) (len1 cap1 : Nat) (l1 : List ByteArray) (a2 : Int) (W : World) (_w0 : (Lit.int .i64 a0).wf = true) (w1 : StrsIn W a1 len1 cap1 l1) (_w2 : (Lit.int .i64 a2).wf = true) :
    Calls Try.prog 7 #[.int .i64 a0, .slice a1 len1 cap1, .int .i64 a2] W fun e w' => e = .returned (.bool true) ∧ Same W w' := plain10_any a0 a1 len1 cap1 l1 a2 W w1
end Go.Proofs.Ytkokagbmmlngjaa
