/- ForestLong: what it computes is true. -/
import Derived.Test.YtkokagbmmlngjaaAlive10
import Derived.Deep.OwnRows
import Derived.IntWalk
import Derived.Test.YtkokagbmmlngjaaOpen
namespace Go.Proofs.Ytkokagbmmlngjaa
open Go.RowKit
set_option maxRecDepth 100000

def u8s (n : Nat) (f : Int) (i : Nat) : List Int := List.replicate i f ++ List.replicate (n - i) 0
theorem intOf_i64 (k : IntKind) (n : Int) : intOf (.int k n) = n := rfl
theorem u8s_len (n : Nat) (f : Int) (i : Nat) (h : i ≤ n) : (u8s n f i).length = n := by simp [u8s]; omega
theorem u8s_set (n : Nat) (f : Int) (i : Nat) (h : i < n) : (u8s n f i).set i f = u8s n f (i + 1) := by
  unfold u8s
  have := set_rep (List.replicate i f) (n - (i + 1)) f
  rw [List.length_replicate] at this
  rw [show n - i = n - (i + 1) + 1 by omega, this, List.replicate_succ']

theorem made_b8 (n : Nat) (f : Int) : madeCells #[.int .u8 0] n = (b8 (u8s n f 0)).toArray := by
  apply Array.ext
  · simp [madeCells, b8, u8s]
  · intro i h1 h2
    simp [madeCells, b8, u8s, Nat.mod_one]

theorem infoByte : Info Try.prog 5 (.int .u8 0) 1 1 := by
  unfold Info
  kernel_rfl

theorem make_b8 (n : Nat) (f : Int) (hn : n ≤ 281474976710656) (w : World) :
    (Instr.makeSlice 60 (.int .i64 (n : Int)) (.int .i64 (n : Int))).run Try.prog w = .ok (.slice (some ⟨w.heap.size, 0, none⟩) n n) (w.alloc (.cells (b8 (u8s n f 0)).toArray 5)) := by
  rw [← made_b8]
  exact run_make_row' (P := Try.prog) 60 5 (.int .u8 0) 1 (by kernel_rfl) infoByte rfl .i64 .i64 n (by omega) (by omega) w

set_option maxHeartbeats 4000000 in
theorem long_any (k over f : Int) (w : World) (hf : 0 ≤ f ∧ f ≤ 255) :
    Calls Try.prog 5 #[.int .i64 k, .int .i64 over, .int .u8 f] w fun e w' => e = .returned (.bool true) ∧ Same w w' := by
  have Kf : Kept (0 ≤ f ∧ f ≤ 255) := ⟨hf⟩
  obtain ⟨k1, hk1⟩ : ∃ k1, Kept (strengthOf k = k1 ∧ 1 ≤ k1 ∧ k1 ≤ 32) := ⟨_, ⟨rfl, strengthOf_range k⟩⟩
  obtain ⟨n, hn⟩ : ∃ n : Nat, Kept ((n : Int) = 1048576 + over % 18446744073709551616 % 3 - 1) := ⟨(1048576 + over % 18446744073709551616 % 3 - 1).toNat, ⟨by omega⟩⟩
  have hv : wrap64 (wrap64 (1048576 + wrap64 ((IntKind.u64.wrap over).tmod 3)) - 1) = (n : Int) := by
    have h1 : (IntKind.u64.wrap over).tmod 3 = over % 18446744073709551616 % 3 := by rw [IntKind.wrap_u64, Int.tmod_eq_emod_of_nonneg (by omega)]
    rw [h1, IntWalk.wrap64_in (over % 18446744073709551616 % 3) (by omega), IntWalk.wrap64_in (1048576 + _) (by omega), IntWalk.wrap64_in _ (by omega), hn.out]
  have Kn : Kept (1048575 ≤ n ∧ n ≤ 1048577) := ⟨by have := hn.out; omega⟩
  have hmk : ∀ w, (Instr.makeSlice 60 (.int .i64 (n : Int)) (.int .i64 (n : Int))).run Try.prog w = .ok (.slice (some ⟨w.heap.size, 0, none⟩) n n) (w.alloc (.cells (b8 (u8s n f 0)).toArray 5)) :=
    make_b8 n f (by have := Kn.out; omega)
  clear hf
  go_enter Try.func5, Try.ntmps5
  go_wp2_with fail
  refine (alive10_any _).mono ?_
  rintro e w1 ⟨rfl, hs1⟩
  go_wp2_with (go_at_call 17; refine (strength10_any _ _).mono ?_; rintro e w' ⟨rfl, rfl⟩; rw [hk1.out.1])
  refine (fnew_any k1 (fun _ => txt (List.replicate n f)) _ hk1.out.2.1 hk1.out.2.2).mono ?_
  rintro e w2 ⟨rfl, hs2, hF2⟩
  have hs02 := hs1.trans hs2
  have hsz := hs1.size
  go_wp2_with (go_at_call 20; refine (num10_any _ _).mono ?_; rintro e w' ⟨rfl, rfl⟩)
  have hB2 := Blk.new w2 5 (b8 (u8s n f 0))
  have hs03 := hs02.alloc (.cells (b8 (u8s n f 0)).toArray 5)
  have hF3 := hF2.same ((Keeps.refl (fun _ => False) w2).alloc (.cells (b8 (u8s n f 0)).toArray 5))
  have hsz3 : w1.heap.size + 1 < w2.heap.size := hF2.cells.lt
  generalize w2.alloc (.cells (b8 (u8s n f 0)).toArray 5) = w3 at *
  have hbm : w.heap.size ≤ w1.heap.size := hsz
  generalize w2.heap.size = g at *
  generalize w1.heap.size = bm at *
  clear hs1 hs2 hs02 hF2 hsz hmk
  rw [hv]
  clear hv
  go_loopw [11] (fun t wr => ∃ i : Nat, i ≤ n ∧ t = .int .i64 i ∧ Same w wr ∧ Blk wr g 5 (b8 (u8s n f i)) ∧ IsForest wr (bm + 1) bm k1 (fun _ => txt (List.replicate n f)) 0) (fun t _ => n - (intOf t).toNat)
  case atStart => exact ⟨0, Nat.zero_le _, rfl, hs03, hB2, hF3⟩
  case round =>
    clear hs03 hB2 hF3
    obtain ⟨i, hi, rfl, hs, hB, hF⟩ := hrel
    by_cases hlt : i < n
    · have c0 : wr.cell? ⟨g, i, none⟩ = some (.int .u8 (gi (u8s n f i) i)) := hB.cell' (b8_at _ i (by rw [u8s_len n f i hi]; exact hlt))
      have f0 := hB.frozen i
      have hB' := hB.set i (.int .u8 f)
      rw [b8_set, u8s_set n f i hlt] at hB'
      have hk : Keeps (· = g) wr (wr.setCell ⟨g, i, none⟩ (.int .u8 f)) := (Keeps.refl (· = g) wr).setCell (p := ⟨g, i, none⟩) (.inl rfl) _
      have hF' := hF.keep hk (show ¬ bm + 1 = g by omega) (show ¬ bm = g by omega)
      have hs' : Same w (wr.setCell ⟨g, i, none⟩ (.int .u8 f)) := hs.then hk (fun j hj e => by have e' : j = g := e; omega)
      have hw : wrap64 ((i : Int) + 1) = (i : Int) + 1 := IntWalk.wrap64_in _ (by have := Kn.out; omega)
      go_wp2_with fail
      go_roundw
      case rel =>
        have := Kn.out
        refine ⟨i + 1, by omega, ?_, hs', hB', hF'⟩
        rw [hw]; rfl
      case measure =>
        have e1 : ((i : Int) + 1).toNat = i + 1 := Int.toNat_natCast (i + 1)
        rw [intOf_i64, intOf_i64, hw, Int.toNat_natCast, e1]
        exact Nat.sub_lt_sub_left hlt (Nat.lt_succ_self i)
    · obtain rfl : i = n := by omega
      have hall : u8s i f i = List.replicate i f := by simp [u8s]
      rw [hall] at hB
      have hcv : ∀ w1, Blk w1 g 5 (b8 (List.replicate i f)) → (convert 60 9 (.slice (some ⟨g, 0, none⟩) i i)).run Try.prog w1 = .ok (.string (txt (List.replicate i f))) w1 := fun w1 h => by
        have := convert_blk (P := Try.prog) (src := 60) (e := 5) (dst := 9) (by kernel_rfl) (by kernel_rfl) (by kernel_rfl) h i i (by simp)
        rw [List.take_of_length_le (by simp)] at this
        exact this
      have hcv0 := hcv _ hB
      have Hcv : Kept (∀ w1, Keeps (fun b => b = bm + 1 ∨ b = bm) wr w1 → (convert 60 9 (.slice (some ⟨g, 0, none⟩) i i)).run Try.prog w1 = .ok (.string (txt (List.replicate i f))) w1) := ⟨fun w1 h => hcv _ (h.blk hB (by omega))⟩
      have Hz : Kept ((txt (List.replicate i f)).size = i) := ⟨by rw [txt_size, List.length_replicate]⟩
      clear hcv hall hB hi hlt
      obtain ⟨d, hd⟩ : ∃ d, Kept (txt (List.replicate i f) = d) := ⟨_, ⟨rfl⟩⟩
      rw [hd.out] at hF hcv0 Hcv Hz
      by_cases hbig : 1048576 < i
      · have Hbig := Kept.mk hbig
        have t1 : decide ((1048576 : Int) < (i : Int)) = true := decide_eq_true (by omega)
        clear hbig
        go_wp2_with fail
        refine (append_big (bm + 1) bm k1 (fun _ => d) 0 d wr (by rw [Hz.out]; exact Hbig.out) (by rw [Hz.out]; have := Kn.out; omega)).mono ?_
        rintro e w5 ⟨rfl, rfl⟩
        go_wp2_with (first
          | (go_at_call 20; refine (num10_any _ _).mono ?_; rintro e w' ⟨rfl, rfl⟩)
          | (go_at_call 23; refine (fsize_any _ _ _ _ _ _ hF).mono ?_; rintro e w' ⟨rfl, rfl⟩))
        go_ret
        exact ⟨rfl, hs⟩
      · have Hbig := Kept.mk hbig
        have t1 : decide ((1048576 : Int) < (i : Int)) = false := decide_eq_false (by omega)
        clear hbig
        go_wp2_with fail
        refine (append_any (bm + 1) bm k1 (fun _ => d) 0 d wr (by rw [Hz.out]; have := Hbig.out; omega) (by decide) rfl hF).mono ?_
        rintro e w5 ⟨X, cx, rfl, hX, hF5, hk5⟩
        rw [show trail (0 + 1) + 1 = 1 from rfl] at hX ⊢
        have e1 : (strs ((newBs k1 (fun _ => d) 0).map (·.2))) = [.string (hleaf k1 d)] := rfl
        rw [e1] at hX
        clear e1
        obtain ⟨lf, hlf⟩ : ∃ d', Kept (hleaf k1 d = d') := ⟨_, ⟨rfl⟩⟩
        rw [hlf.out] at hX
        have hs5 : Same w w5 := hs.then hk5 (fun j hj e => by omega)
        have hcv5 : ∀ nq, (convert 60 9 (.slice (some ⟨g, 0, none⟩) i i)).run Try.prog (w5.drewN nq) = .ok (.string d) (w5.drewN nq) := fun nq => Hcv.out _ (hk5.drewN nq)
        obtain ⟨gx, rfl, _, _, _⟩ := hX.form (by decide)
        obtain ⟨_, _, hxe, hx⟩ := hX.cells.at_ (by simp)
        cases hxe
        have x0 := hx 0 _ rfl
        rw [Nat.zero_add] at x0
        have hcv7 : (convert 60 9 (.slice (some ⟨g, 0, none⟩) i i)).run Try.prog w5.drew = .ok (.string d) w5.drew := Hcv.out _ hk5.drew
        clear hcv5
        have Kd : Kept (d.size ≤ 1152921504606846976) := ⟨by rw [Hz.out]; have := Hbig.out; omega⟩
        have Hk5 := Kept.mk hk5
        clear hx hX hk5 hs hF hcv0
        go_wp2_with fail
        go_region_held3 (fun w' => w'.cell? ⟨gx, 0, none⟩ = some (.string lf) ∧ (convert 60 9 (.slice (some ⟨g, 0, none⟩) i i)).run Try.prog w' = .ok (.string d) w')
          (first
            | exact ⟨x0, hcv7⟩
            | exact ⟨hs6.cell' x0 (fun f => f), Hcv.out _ (Hk5.out.drew.then hs6 (fun _ _ f => f.elim))⟩
            | fail)
          (first
            | (go_at_call 20; refine (num10_any _ _).mono ?_; rintro e w' ⟨rfl, rfl⟩)
            | (go_at_call 33; refine (hleaf_any _ _ _ Kd.out).mono ?_; rintro e w6 ⟨rfl, hs6⟩; rw [hlf.out]; have hF6 := hF5.same ((Keeps.refl (fun _ => False) w5).drew.trans hs6))
            | (go_at_call 23; refine (fsize_any _ _ _ _ _ _ hF6).mono ?_; rintro e w' ⟨rfl, rfl⟩)
            | fail)
        go_wp2_with fail
        go_ret
        exact ⟨rfl, hs5.drew.trans hs6⟩

theorem walk_ForestLong (a0 a1 a2 : Int) (W : World) (_w0 : (Lit.int .i64 a0).wf = true) (_w1 : (Lit.int .i64 a1).wf = true) (w2 : (Lit.int .u8 a2).wf = true) :
    Calls Try.prog 5 #[.int .i64 a0, .int .i64 a1, .int .u8 a2] W fun e w' => e = .returned (.bool true) ∧ Same W w' := long_any a0 a1 a2 W (wf_u8 w2)
end Go.Proofs.Ytkokagbmmlngjaa
