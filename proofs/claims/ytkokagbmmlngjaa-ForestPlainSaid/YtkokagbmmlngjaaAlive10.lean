/- The small functions of massiflaw10 and its example. -/
import Derived.Test.YtkokagbmmlngjaaForest
import Derived.Deep.RegionHeld3
import Derived.IntWalk
namespace Go.Proofs.Ytkokagbmmlngjaa
open Go.RowKit
set_option maxRecDepth 100000

theorem num10_any (n : Int) (w : World) :
    Calls Try.prog 20 #[.int .i64 n] w fun e w' => e = .returned (.int .i64 n) ∧ w = w' := by
  go_enter Try.func20, Try.ntmps20
  go_wp2
  go_ret
  exact ⟨rfl, rfl⟩

def strengthOf (k : Int) : Int := k % 32 + 1
theorem strengthOf_range (k : Int) : 1 ≤ strengthOf k ∧ strengthOf k ≤ 32 := by unfold strengthOf; omega

theorem strength10_any (k : Int) (w : World) :
    Calls Try.prog 17 #[.int .i64 k] w fun e w' => e = .returned (.int .i64 (strengthOf k)) ∧ w = w' := by
  go_enter Try.func17, Try.ntmps17
  go_wp2
  go_ret
  refine ⟨ret_int ?_, rfl⟩
  have h1 : (IntKind.u64.wrap k).tmod 32 = k % 32 := by rw [IntKind.wrap_u64, Int.tmod_eq_emod_of_nonneg (by omega)]; omega
  rw [h1, IntWalk.wrap64_in (k % 32) (by omega), IntWalk.wrap64_in _ (by omega)]
  rfl

def abc : Nat → ByteArray
  | 0 => { data := #[97] }
  | 1 => { data := #[98] }
  | _ => { data := #[99] }

set_option maxHeartbeats 4000000 in
theorem alive10_any (w : World) :
    Calls Try.prog 16 #[] w fun e w' => e = .returned (.bool true) ∧ Same w w' := by
  go_enter Try.func16, Try.ntmps16
  go_wp2_with fail
  refine (fnew_any 32 abc _ (by decide) (by decide)).mono ?_
  rintro e w1 ⟨rfl, hs1, hF1⟩
  have hbf : w.heap.size ≤ w.heap.size + 1 := by omega
  generalize hbfe : w.heap.size + 1 = bf at *
  generalize hbme : w.heap.size = bm at *
  have Hbf := Kept.mk hbfe
  have Hbm := Kept.mk hbme
  clear hbfe hbme
  have hne : ((bf : Nat) = bm) = False := by have := hF1.ne; simp [this]
  obtain ⟨la, hla⟩ : ∃ d, Kept (hleaf 32 (abc 0) = d ∧ d.size = 32) := ⟨_, ⟨rfl, by rw [hleaf, hof_size]; rfl⟩⟩
  obtain ⟨lb, hlb⟩ : ∃ d, Kept (hleaf 32 (abc 1) = d ∧ d.size = 32) := ⟨_, ⟨rfl, by rw [hleaf, hof_size]; rfl⟩⟩
  obtain ⟨lc, hlc⟩ : ∃ d, Kept (hleaf 32 (abc 2) = d ∧ d.size = 32) := ⟨_, ⟨rfl, by rw [hleaf, hof_size]; rfl⟩⟩
  obtain ⟨na, hna⟩ : ∃ d, Kept (hnode 32 la lb = d ∧ d.size = 32) := ⟨_, ⟨rfl, by rw [hnode, hof_size]; rfl⟩⟩
  have e1 : Kept (strs ((newBs 32 abc 0).map (·.2)) = [.string la]) := ⟨by rw [← hla.out.1]; rfl⟩
  have e2 : Kept (strs ((newBs 32 abc 1).map (·.2)) = [.string lb, .string na]) := ⟨by rw [← hna.out.1, ← hla.out.1, ← hlb.out.1]; rfl⟩
  have e3 : Kept (strs ((newBs 32 abc 2).map (·.2)) = [.string lc]) := ⟨by rw [← hlc.out.1]; rfl⟩
  go_wp2_with (go_at_call 20; refine (num10_any _ _).mono ?_; rintro e w' ⟨rfl, rfl⟩)
  refine (append_any bf bm 32 abc 0 _ w1 (by decide) (by decide) rfl hF1).mono ?_
  rintro e w2 ⟨X, cx, rfl, hX, hF2, hk2⟩
  rw [e1.out] at hX
  rw [show trail (0 + 1) + 1 = 1 from rfl] at hX ⊢
  go_wp2_with fail
  refine (append_any bf bm 32 abc 1 _ w2 (by decide) (by decide) rfl hF2).mono ?_
  rintro e w3 ⟨Y, cy, rfl, hY, hF3, hk3⟩
  rw [e2.out] at hY
  rw [show trail (1 + 1) + 1 = 2 from rfl] at hY ⊢
  have hX3 := hX.keep hk3 (fun b hb e => by have := (hX.inA hb).1; have := hF1.cells.lt; have := hF1.map.lt; omega)
  go_wp2_with fail
  refine (append_any bf bm 32 abc 2 _ w3 (by decide) (by decide) rfl hF3).mono ?_
  rintro e w4 ⟨Z, cz, rfl, hZ, hF4, hk4⟩
  rw [e3.out] at hZ
  rw [show trail (2 + 1) + 1 = 1 from rfl] at hZ ⊢
  have hX4 := hX3.keep hk4 (fun b hb e => by have := (hX3.inA hb).1; have := hF1.cells.lt; have := hF1.map.lt; omega)
  have hY4 := hY.keep hk4 (fun b hb e => by have := (hY.inA hb).1; have := hF2.cells.lt; have := hF2.map.lt; omega)
  have hs4 : Same w w4 := ((hs1.then hk2 (fun i hi e => by have := Hbf.out; have := Hbm.out; omega)).then hk3 (fun i hi e => by have := Hbf.out; have := Hbm.out; omega)).then hk4 (fun i hi e => by have := Hbf.out; have := Hbm.out; omega)
  clear hs1 hF1 hX hk2 hF2 hY hF3 hX3 hk3 hk4
  obtain ⟨gx, rfl, _, _, _⟩ := hX4.form (by decide)
  obtain ⟨gy, rfl, _, _, _⟩ := hY4.form (by decide)
  obtain ⟨gz, rfl, _, _, _⟩ := hZ.form (by decide)
  obtain ⟨_, _, hxe, hx⟩ := hX4.cells.at_ (by simp)
  cases hxe
  obtain ⟨_, _, hye, hy⟩ := hY4.cells.at_ (by simp)
  cases hye
  obtain ⟨_, _, hze, hz⟩ := hZ.cells.at_ (by simp)
  cases hze
  have x0 := hx 0 _ rfl
  have y0 := hy 0 _ rfl
  have y1 := hy 1 _ rfl
  have z0 := hz 0 _ rfl
  rw [Nat.zero_add] at x0 y0 y1 z0
  clear hx hy hz
  go_wp2_with fail
  have z1 : ((la.size : Int) != 32) = false := by rw [hla.out.2]; rfl
  have Kab : Kept (la.size ≤ 1152921504606846976 ∧ lb.size ≤ 1152921504606846976) := ⟨by rw [hla.out.2, hlb.out.2]; decide⟩
  have Kc : Kept ((abc 2).size ≤ 1152921504606846976) := ⟨by decide⟩
  go_region_held3 (fun w' => w'.cell? ⟨gx, 0, none⟩ = some (.string la) ∧ w'.cell? ⟨gy, 0, none⟩ = some (.string lb) ∧ w'.cell? ⟨gy, 0 + 1, none⟩ = some (.string na) ∧ w'.cell? ⟨gz, 0, none⟩ = some (.string lc))
    (first
      | exact ⟨x0, y0, y1, z0⟩
      | exact ⟨hs7.cell' (hs6.cell' x0 (fun f => f)) (fun f => f), hs7.cell' (hs6.cell' y0 (fun f => f)) (fun f => f), hs7.cell' (hs6.cell' y1 (fun f => f)) (fun f => f), hs7.cell' (hs6.cell' z0 (fun f => f)) (fun f => f)⟩
      | exact ⟨hs6.cell' (hs7.cell' x0 (fun f => f)) (fun f => f), hs6.cell' (hs7.cell' y0 (fun f => f)) (fun f => f), hs6.cell' (hs7.cell' y1 (fun f => f)) (fun f => f), hs6.cell' (hs7.cell' z0 (fun f => f)) (fun f => f)⟩
      | exact ⟨hs6.cell' x0 (fun f => f), hs6.cell' y0 (fun f => f), hs6.cell' y1 (fun f => f), hs6.cell' z0 (fun f => f)⟩
      | exact ⟨hs7.cell' x0 (fun f => f), hs7.cell' y0 (fun f => f), hs7.cell' y1 (fun f => f), hs7.cell' z0 (fun f => f)⟩
      | fail)
    (first
      | (go_at_call 20; refine (num10_any _ _).mono ?_; rintro e w' ⟨rfl, rfl⟩)
      | (go_at_call 28; refine (hnode_any _ _ _ _ Kab.out.1 Kab.out.2).mono ?_; rintro e w6 ⟨rfl, hs6⟩; rw [hna.out.1])
      | (go_at_call 33; refine (hleaf_any _ _ _ Kc.out).mono ?_; rintro e w7 ⟨rfl, hs7⟩; rw [hlc.out.1])
      | fail)
  have hs7' : Same w w7 := (hs4.drew.trans hs6).trans hs7
  have hF7 := ((hF4.same (Keeps.refl (fun _ => False) w4).drew).same hs6).same hs7
  have y17 := hs7.cell' (hs6.cell' y1 (fun f => f)) (fun f => f)
  have z07 := hs7.cell' (hs6.cell' z0 (fun f => f)) (fun f => f)
  clear hs4 hF4 hs6 hs7 x0 y0 y1 z0 z1 Kab Kc
  have hlt := hF7.cells.lt
  have K2 : Kept (fdig 32 abc 3 (((blockAt (2 : Int).toNat).1 : Nat), ((blockAt (2 : Int).toNat).2 : Nat)) = some na) := ⟨by
    rw [show blockAt (2 : Int).toNat = (1, 0) from by decide, fdig_in 32 abc 3 1 0 (by decide), ← hna.out.1, ← hla.out.1, ← hlb.out.1]; rfl⟩
  have K3 : Kept (hroot 32 3 (peaks 32 abc 3) = hroot 32 3 [na, lc]) := ⟨by rw [← hna.out.1, ← hla.out.1, ← hlb.out.1, ← hlc.out.1]; rfl⟩
  obtain ⟨r, hr⟩ : ∃ r, Kept (hroot 32 3 [na, lc] = r) := ⟨_, ⟨rfl⟩⟩
  rw [hr.out] at K3
  clear hne e1 e2 e3
  go_wp2_with fail
  refine (fnode_any bf bm 32 abc 3 2 w7 hF7 (by decide) (by decide)).mono ?_
  rintro e w8 ⟨rfl, hs8⟩
  rw [K2.out]
  have hF8 := hF7.same hs8
  go_wp2_with fail
  refine (fnode_beyond bf bm 32 abc 3 4 w8 hF8 (by decide)).mono ?_
  rintro e w9 ⟨rfl, rfl⟩
  go_wp2_with fail
  refine (froot_any bf bm 32 abc 3 3 w8 hF8 (by decide)).mono ?_
  rintro e w9 ⟨rfl, hs9⟩
  rw [show ((3 : Nat) : Int) = 3 from rfl, K3.out]
  have hs19 := hs8.trans hs9
  have hF9 := hF8.same hs9
  clear hs8 hs9 hF7 hF8 K2 K3
  unfold rootV
  go_wp2_with fail
  have hsA := (Keeps.refl (fun _ => False) w9).alloc (.cells #[.int .u64 3, .string r] 34)
  have hF10 := hF9.same hsA
  refine (froot_big bf bm 32 abc 3 4 _ hF10 (by decide)).mono ?_
  rintro e w11 ⟨rfl, hs11⟩
  unfold rootV
  have hF11 := hF10.same hs11
  have hsA19 := hs19.trans (hsA.trans hs11)
  have hR := hs11.blk (Blk.new w9 34 [.int .u64 3, .string r]) (fun f => f)
  clear hs19 hsA hF9 hF10 hs11
  go_wp2_with fail
  refine (fnew_bad 33 _ (by decide)).mono ?_
  rintro e w12 ⟨rfl, rfl⟩
  go_wp2_with fail
  have hs12 := hsA19.alloc (.cells #[.int .u64 0, .string ByteArray.empty] 34)
  have hsB := (Keeps.refl (fun _ => False) w11).alloc (.cells #[.int .u64 0, .string ByteArray.empty] 34)
  have hF12 := hF11.same hsB
  have hR12 := hR.alloc (.cells #[.int .u64 0, .string ByteArray.empty] 34)
  have y12 := hs12.cell' y17 (fun f => f)
  have z12 := hs12.cell' z07 (fun f => f)
  have hsZ := hs7'.trans hs12
  clear hR y17 z07 hs12 hsB hF11 hsA19 hs7'
  generalize w11.alloc (.cells #[.int .u64 0, .string ByteArray.empty] 34) = w12 at *
  generalize w9.heap.size = br at *
  generalize w11.heap.size = bq at *
  have r0 : w12.cell? ⟨br, 0, none⟩ = some (.int .u64 3) := hR12.cell' rfl
  have r1 : w12.cell? ⟨br, 0 + 1, none⟩ = some (.string r) := hR12.cell' rfl
  clear hR12
  have Kl : Kept (∀ x ∈ [na, lc], x.size ≤ 1152921504606846976) := ⟨by
    intro x hx
    rcases List.mem_cons.1 hx with rfl | hx
    · rw [hna.out.2]; decide
    · rw [List.mem_singleton.1 hx, hlc.out.2]; decide⟩
  have hcl : Cells (w12.alloc (.cells #[.string na, .string lc] 9)).drew (some ⟨w12.heap.size, 0, none⟩) (strs [na, lc]) :=
    ((Own.lit w12 0 9 1 2 (strs [na, lc]) (Nat.zero_le _) (by decide) rfl).cells).same (Keeps.refl (fun _ => False) _).drew
  have HC := Kept.mk (hroot_any 32 3 (some ⟨w12.heap.size, 0, none⟩) 2 [na, lc] _ (by simp) Kl.out hcl)
  have HS : Kept (Same w12 (w12.alloc (.cells #[.string na, .string lc] 9)).drew) := ⟨((Keeps.refl (fun _ => False) w12).alloc _).drew⟩
  clear hcl
  go_region_held3 (fun w' => w'.cell? ⟨br, 0, none⟩ = some (.int .u64 3) ∧ w'.cell? ⟨br, 0 + 1, none⟩ = some (.string r) ∧ w'.cell? ⟨gy, 0 + 1, none⟩ = some (.string na) ∧ w'.cell? ⟨gz, 0, none⟩ = some (.string lc))
    (first
      | exact ⟨r0, r1, y12, z12⟩
      | exact ⟨((Keeps.refl (fun _ => False) w12).alloc _).cell' r0 (fun f => f), ((Keeps.refl (fun _ => False) w12).alloc _).cell' r1 (fun f => f), ((Keeps.refl (fun _ => False) w12).alloc _).cell' y12 (fun f => f), ((Keeps.refl (fun _ => False) w12).alloc _).cell' z12 (fun f => f)⟩
      | exact ⟨((Keeps.refl (fun _ => False) w12.drew).alloc _).cell' r0 (fun f => f), ((Keeps.refl (fun _ => False) w12.drew).alloc _).cell' r1 (fun f => f), ((Keeps.refl (fun _ => False) w12.drew).alloc _).cell' y12 (fun f => f), ((Keeps.refl (fun _ => False) w12.drew).alloc _).cell' z12 (fun f => f)⟩
      | exact ⟨hs14.cell' r0 (fun f => f), hs14.cell' r1 (fun f => f), hs14.cell' y12 (fun f => f), hs14.cell' z12 (fun f => f)⟩
      | fail)
    (first
      | (go_at_call 20; refine (num10_any _ _).mono ?_; rintro e w' ⟨rfl, rfl⟩)
      | (go_at_call 23; refine (fsize_any bf bm 32 abc 3 _ (by first | exact hF14 | exact hF12)).mono ?_; rintro e w' ⟨rfl, rfl⟩)
      | (go_at_call 77; refine (HC.out).mono ?_; rintro e w14 ⟨rfl, hs14'⟩; have hs14 : Same w12 w14 := HS.out.trans hs14'; have hF14 := hF12.same hs14; rw [hr.out])
      | fail)
  go_wp2_with fail
  go_ret
  exact ⟨rfl, hsZ.trans hs14⟩
end Go.Proofs.Ytkokagbmmlngjaa
