/- ForestRow: what it computes is true. -/
import Derived.Test.YtkokagbmmlngjaaHelp10
import Derived.Test.YtkokagbmmlngjaaRowP
namespace Go.Proofs.Ytkokagbmmlngjaa
open Go.RowKit
set_option maxRecDepth 100000

def rootC (k : Int) (its : Nat → ByteArray) (m : Nat) : List Value := [.int .u64 m, .string (hroot k m (peaks k its m))]
def rootsC (k : Int) (its : Nat → ByteArray) (n : Nat) : List Value := (List.range n).flatMap (rootC k its)
theorem rootsC_succ (k : Int) (its : Nat → ByteArray) (n : Nat) : rootsC k its (n + 1) = rootsC k its n ++ rootC k its n := by
  unfold rootsC; rw [List.range_succ, List.flatMap_append]; simp
theorem rootsC_len (k : Int) (its : Nat → ByteArray) (n : Nat) : (rootsC k its n).length = n * 2 := by
  induction n with
  | zero => rfl
  | succ n ih => rw [rootsC_succ, List.length_append, ih]; simp [rootC]; omega
theorem rootsC_at (k : Int) (its : Nat → ByteArray) (n i : Nat) (h : i < n) : (rootsC k its n)[i * 2]? = some (.int .u64 i) ∧ (rootsC k its n)[i * 2 + 1]? = some (.string (hroot k i (peaks k its i))) := by
  induction n with
  | zero => omega
  | succ n ih =>
    rw [rootsC_succ]
    have hl := rootsC_len k its n
    rcases Nat.lt_or_ge i n with h1 | h1
    · rw [List.getElem?_append_left (by omega), List.getElem?_append_left (by omega)]
      exact ih h1
    · have : i = n := by omega
      subst this
      rw [List.getElem?_append_right (by omega), List.getElem?_append_right (by omega), hl]
      have e1 : i * 2 - i * 2 = 0 := by omega
      have e2 : i * 2 + 1 - i * 2 = 1 := by omega
      rw [e1, e2]
      exact ⟨rfl, rfl⟩
theorem infoRoot : Info Try.prog 34 (.agg #[.int .u64 0, .string ByteArray.empty]) 2 24 := by
  unfold Info
  kernel_rfl
theorem hroot_size (k n : Int) (l : List ByteArray) : (hroot k n l).size = clampK k := hof_size _ _
theorem rootC_one (k : Int) (its : Nat → ByteArray) (m : Nat) : ∀ v ∈ rootC k its m, v.oneCell' = true := by
  intro v hv
  simp only [rootC, List.mem_cons, List.not_mem_nil, or_false] at hv
  rcases hv with rfl | rfl <;> rfl
def entD (k : Int) (its : Nat → ByteArray) (m : Nat) : List ByteArray := (entries k its m).map (·.2)

set_option maxHeartbeats 8000000 in
theorem row10_any (k : Int) (A : Option Addr) (n c : Nat) (l : List ByteArray) (w : World) (hI : StrsIn w A n c l) :
    Calls Try.prog 3 #[.int .i64 k, .slice A n c] w fun e w' => e = .returned (.bool true) ∧ Same w w' := by
  obtain ⟨k1, hk1⟩ : ∃ k1, Kept (strengthOf k = k1 ∧ 1 ≤ k1 ∧ k1 ≤ 32) := ⟨_, ⟨rfl, strengthOf_range k⟩⟩
  obtain ⟨L, hL⟩ : ∃ L, Kept (l.take 70 = L) := ⟨_, ⟨rfl⟩⟩
  have hL70 : (L.length : Int) ≤ 70 := by rw [← hL.out, List.length_take]; omega
  have hIL := hI.take 70
  rw [hL.out] at hIL
  obtain ⟨its, hits⟩ : ∃ its, Kept (itsOf (takenOf L) = its) := ⟨_, ⟨rfl⟩⟩
  go_enter Try.func3, Try.ntmps3
  go_wp2_with fail
  refine (alive10_any _).mono ?_
  rintro e w1 ⟨rfl, hs1⟩
  have hI1 := hI.keep hs1
  go_wp2_with (first
    | (go_at_call 17; refine (strength10_any _ _).mono ?_; rintro e w' ⟨rfl, rfl⟩; rw [hk1.out.1])
    | (go_at_call 18; refine (few10_any _ _ _ l _ hI1).mono ?_; rintro e w' ⟨rfl, rfl⟩; rw [hL.out]))
  refine (fnew_any k1 its _ hk1.out.2.1 hk1.out.2.2).mono ?_
  rintro e w2 ⟨rfl, hs2, hF2⟩
  have hsz1 : w.heap.size ≤ w1.heap.size := hs1.size
  have hsz2 : w1.heap.size + 1 < w2.heap.size := hF2.cells.lt
  have hs02 := hs1.trans hs2
  generalize w1.heap.size = bm at *
  clear hI1 hs1 hs2
  have hK0 : Kept (hroot k1 0 (peaks k1 its 0) = hroot k1 0 (peaks k1 its 0)) := ⟨rfl⟩
  go_wp2_with (first
    | (go_at_call 20; refine (num10_any _ _).mono ?_; rintro e w' ⟨rfl, rfl⟩))
  refine (froot_any (bm + 1) bm k1 its 0 0 w2 hF2 (Nat.le_refl _)).mono ?_
  rintro e w3 ⟨rfl, hs3⟩
  unfold rootV
  have hF3 := hF2.same hs3
  have hs03 := hs02.trans hs3
  have hsz3 := hs3.size
  have hIL3 := hIL.keep hs03
  have hsz30 : bm + 1 < w3.heap.size := by omega
  clear hF2 hs02 hs3
  obtain ⟨d0, hd0⟩ : ∃ d, Kept (hroot k1 0 (peaks k1 its 0) = d) := ⟨_, ⟨rfl⟩⟩
  rw [show hroot k1 ((0 : Nat) : Int) (peaks k1 its 0) = d0 from hd0.out]
  have hB0 := Blk.new w3 34 [.int .u64 0, .string d0]
  have hF4 := hF3.same ((Keeps.refl (fun _ => False) w3).alloc (.cells #[.int .u64 0, .string d0] 34))
  have hs04 := hs03.alloc (.cells #[.int .u64 0, .string d0] 34)
  have hsz4 : (w3.alloc (.cells #[.int .u64 0, .string d0] 34)).heap.size = w3.heap.size + 1 := by simp
  have hd0' : Kept ([.int .u64 0, .string d0] = rootC k1 its 0) := ⟨by rw [← hd0.out]; rfl⟩
  go_wp2_with fail
  have hk34 := (Keeps.refl (fun _ => False) w3).alloc (.cells #[.int .u64 0, .string d0] 34)
  have hbc : bm + 1 < w3.heap.size := hsz30
  have hbw : w.heap.size ≤ bm := hsz1
  have hsc : w3.heap.size + 1 ≤ (w3.alloc (.cells #[.int .u64 0, .string d0] 34)).heap.size := Nat.le_of_eq hsz4.symm
  generalize w3.alloc (.cells #[.int .u64 0, .string d0] 34) = w4 at *
  generalize w3.heap.size = bc at *
  clear hk34 hsz4 hsz1 hsz2 hsz3 hsz30
  have r40 : w4.cell? ⟨bc, 0, none⟩ = some (.int .u64 0) := hB0.cell' rfl
  have r41 : w4.cell? ⟨bc, 0 + 1, none⟩ = some (.string d0) := hB0.cell' rfl
  go_wp2_with (first
    | (go_at_call 20; refine (num10_any _ _).mono ?_; rintro e w' ⟨rfl, rfl⟩)
    | (at_builtin; refine append_one2 (bc + 1) rfl _ _ 31 34 (.agg #[.int .u64 0, .string ByteArray.empty]) 2 24 rfl (by kernel_rfl) infoRoot rfl (by decide) (by decide) none 0 0 [] [.int .u64 0, .string d0] rfl rfl rfl (by rw [hd0'.out]; exact rootC_one _ _ _) (Own.none _ _ _ _) hsc (by decide) ?_; intro R0 r0 w5 hO5 hk5 hd5))
  have hk5' : Same w4 w5 := hk5.mono (fun k _ h => by obtain ⟨a, ha, _⟩ := h; cases ha)
  have hF5 := hF4.same hk5'
  have hB5 := hk5'.blk hB0 (fun f => f)
  have hs05 := hs04.trans hk5'
  rw [hd0'.out] at hO5
  have hO5' : Own w5 (bc + 1) 34 2 R0 r0 1 (rootsC k1 its 1) := hO5
  have hszc : bc + 1 ≤ w5.heap.size := by have := hk5'.size; omega
  clear hk5 hd5 hO5 hB0 hF4 hs04 hF3 hs03 hk5' hIL3 hd0' hd0 hK0 r40 r41
  go_loopw [7, 8, 11] (fun row roots i wr => ∃ (j m : Nat) (B : Option Addr) (cb : Nat) (R : Option Addr) (cr : Nat), j ≤ L.length ∧ i = .int .i64 j ∧ row = .slice B (nodesOf m) cb ∧ roots = .slice R (m + 1) cr ∧ Kept (m = (takenOf (L.take j)).length) ∧
      IsForest wr (bm + 1) bm k1 its m ∧ (∃ x y, Blk wr bc 34 [.int .u64 x, .string y]) ∧ Own wr (bc + 1) 9 1 B cb (nodesOf m) (strs (entD k1 its m)) ∧ Own wr (bc + 1) 34 2 R cr (m + 1) (rootsC k1 its (m + 1)) ∧
      (∀ b, InA B b → ¬ InA R b) ∧ Same w wr) (fun _ _ i _ => L.length - (intOf i).toNat)
  case atStart =>
    exact ⟨0, 0, none, 0, R0, r0, Nat.zero_le _, rfl, rfl, rfl, ⟨rfl⟩, hF5, ⟨_, _, hB5⟩, Own.none _ _ _ _, hO5', (fun b hb => by obtain ⟨a, ha, _⟩ := hb; cases ha), hs05⟩
  case round =>
    clear hF5 hB5 hO5' hs05 hszc
    obtain ⟨j, m, B, cb, R, cr, hj, rfl, rfl, rfl, hm, hF, ⟨x0, y0, hC⟩, hB, hR, hap, hs⟩ := hrel
    have hml : m ≤ j := by
      rw [hm.out]
      have := takenOf_le (L.take j)
      rw [List.length_take] at this
      omega
    by_cases hlt : j < L.length
    · have hmb : m < 65536 := by omega
      have hne : strs L ≠ [] := by
        intro h
        have := strs_at L j hlt
        rw [h] at this
        cases this
      obtain ⟨b, o, hA1, hca⟩ := (hIL.cells.same hs).at_ hne
      subst hA1
      have l0 := hca _ _ (strs_at L j hlt)
      have hb0 := hIL.cells.lt hne b ⟨_, rfl, rfl⟩
      have hsx : Kept (L[j].size ≤ 9223372036854775807) := ⟨hIL.size _ (List.getElem_mem hlt)⟩
      clear hca hne
      by_cases hfit : L[j].size ≤ 1048576
      · have Hfit := Kept.mk hfit
        have hy : Kept (takenOf (L.take (j + 1)) = takenOf (L.take j) ++ [L[j]]) := ⟨taken_yes L j hlt (by simpa [fits] using hfit)⟩
        have hat : Kept (its m = L[j]) := ⟨by rw [← hits.out, hm.out]; exact taken_at L j hlt (by simpa [fits] using hfit)⟩
        clear hfit
        generalize L[j] = x at *
        obtain ⟨T, hT⟩ : ∃ T, Kept (trail (m + 1) = T) := ⟨_, ⟨rfl⟩⟩
        have hTb : T ≤ 64 := by
          have := (trailFrom_range (m + 1) 64 0).2
          rw [← hT.out]; unfold trail; omega
        have hNs : Kept (nodesOf (m + 1) = nodesOf m + (T + 1)) := ⟨by rw [nodesOf_succ m (by omega), hT.out]⟩
        have hNb : nodesOf m ≤ 2 * m := Nat.sub_le _ _
        have hED : Kept (strs (entD k1 its (m + 1)) = strs (entD k1 its m) ++ strs ((newBs k1 its m).map (·.2))) := ⟨by unfold entD; rw [entries, List.map_append, strs, strs, strs, List.map_append]⟩
        obtain ⟨N, hN⟩ : ∃ N, Kept (nodesOf m = N) := ⟨_, ⟨rfl⟩⟩
        rw [hN.out] at hB hNs hNb ⊢
        obtain ⟨M, hM⟩ : ∃ M, Kept (m + 1 = M) := ⟨_, ⟨rfl⟩⟩
        rw [hM.out] at hR hNs hED ⊢
        -- <<done
        go_wp2_with fail
        refine (append_any (bm + 1) bm k1 its m x wr Hfit.out hmb hat.out hF).mono ?_
        rintro e w5 ⟨X, cx, rfl, hX, hF5, hk5⟩
        rw [hT.out] at hX ⊢
        rw [hM.out] at hF5
        have hsz0 := hs.size
        have hszr : bc + 1 ≤ wr.heap.size := hC.lt
        have hsz5 := hk5.size
        have hs5 : Same w w5 := hs.then hk5 (fun i hi e => by omega)
        have hC5 := hk5.blk hC (show ¬ (bc = bm + 1 ∨ bc = bm) by omega)
        have hB5 := hB.keep hk5 (fun b hb e => by have := (hB.inA hb).1; omega)
        have hR5 := hR.keep hk5 (fun b hb e => by have := (hR.inA hb).1; omega)
        have hXf := fun b hb => (hX.inA (k := b) hb).1
        have hXn : X = none → T + 1 = 0 ∧ cx = 0 := by
          intro h
          obtain ⟨g, hg, _⟩ := hX.form (by omega)
          rw [hg] at h; cases h
        have hB5l := fun b hb => (hB.inA (k := b) hb).2
        have hR5l := fun b hb => (hR.inA (k := b) hb).2
        have hXc := hX.cells
        have hbb : (N + (T + 1)) * 16 ≤ 140737488355328 := by omega
        have hszb : bc + 1 ≤ w5.heap.size := by omega
        have hXl : (strs ((newBs k1 its m).map (·.2))).length = (T + 1) * 1 := hX.len
        clear hk5 hF hC hB hR hs l0
        go_wp2_with (first
          | (go_at_call 20; refine (num10_any _ _).mono ?_; rintro e w' ⟨rfl, rfl⟩)
          | (at_builtin; refine append_many2 (bc + 1) rfl _ _ 22 9 (.string ByteArray.empty) 1 16 rfl (by kernel_rfl) infoString rfl (by decide) (by decide) B cb N _ X (T + 1) cx _ rfl rfl hXl (strs_one _) hB5 hXc hXn hszb hbb ?_; intro B1 cb1 w6 hB6 hk6 hd6))
        have hsz6 := hk6.size
        have hF6 := hF5.keep hk6 (fun hb => by have := (hB5.inA hb).1; omega) (fun hb => by have := (hB5.inA hb).1; omega)
        have hC6 := hk6.blk hC5 (fun hb => by have := (hB5.inA hb).1; omega)
        have hR6 := hR5.keep hk6 (fun b hb hb' => hap b hb' hb)
        have hs6 := hs5.then hk6 (fun i hi hb => by have := (hB5.inA hb).1; omega)
        have hap6 : ∀ b, InA B1 b → ¬ InA R b := fun b hb hb' => by
          rcases new_block hd6 b hb with h | h
          · exact hap b h hb'
          · have := hR5l b hb'; omega
        obtain ⟨dM, hdM⟩ : ∃ d, Kept (hroot k1 M (peaks k1 its M) = d) := ⟨_, ⟨rfl⟩⟩
        have hdz : ((dM.size : Int) != k1) = false := by
          rw [bne_eq_false_iff_eq, ← hdM.out, hroot_size, clampK_of k1 hk1.out.2.1 hk1.out.2.2]
          have := hk1.out
          omega
        rw [← hED.out] at hB6
        clear hk6 hd6 hB5 hF5 hC5 hR5 hs5 hX hXc hXf hXl hB5l hap hXn hR5l
        go_wp2_with (go_at_call 23; refine (fsize_any _ _ _ _ _ _ hF6).mono ?_; rintro e w' ⟨rfl, rfl⟩)
        refine (froot_any (bm + 1) bm k1 its M M w6 hF6 (Nat.le_refl _)).mono ?_
        rintro e w7 ⟨rfl, hs7⟩
        rw [hdM.out]
        have hF7 := hF6.same hs7
        have hC7 := hs7.blk hC6 (fun f => f)
        have hR7 := hR6.same hs7
        have hB7 := hB6.same hs7
        have hs7' := hs6.trans hs7
        have hsz7 := hs7.size
        unfold rootV
        clear hF6 hC6 hR6 hB6 hs6 hs7
        go_wp2_with (refine wpList_store_blk rfl 34 _ _ rfl bc [.int .u64 M, .string dM] rfl rfl 34 _ hC7 (by kernel_rfl) rfl (by simp [Value.oneCell']) ?_; intro w8 hC8 hk8 hsz8)
        have hF8 := hF7.keep hk8 (show ¬ bm + 1 = bc by omega) (show ¬ bm = bc by omega)
        have hR8 := hR7.keep hk8 (fun b hb e => by have := (hR7.inA hb).1; have e' : b = bc := e; omega)
        have hB8 := hB7.keep hk8 (fun b hb e => by have := (hB7.inA hb).1; have e' : b = bc := e; omega)
        have hs8 := hs7'.then hk8 (fun i hi e => by have e' : i = bc := e; omega)
        have q0 : w8.cell? ⟨bc, 0, none⟩ = some (.int .u64 M) := hC8.cell' rfl
        have q1 : w8.cell? ⟨bc, 1, none⟩ = some (.string dM) := hC8.cell' rfl
        have hszd : bc + 1 ≤ w8.heap.size := hC8.lt
        clear hF7 hC7 hR7 hB7 hs7' hk8 hsz8
        go_wp2_with fail
        go_quiet ((first | (go_at_call 20; exact quiet_ww (num10_any _ _)) | (go_at_call 23; exact quiet_ww (fsize_any _ _ _ _ _ _ (hF8.same ((Keeps.refl _ _).drewN _))))))
        have hF9 := hF8.same ((Keeps.refl (fun _ => False) w8).drewN nq)
        have hR9 := hR8.same ((Keeps.refl (fun _ => False) w8).drewN nq)
        have hB9 := hB8.same ((Keeps.refl (fun _ => False) w8).drewN nq)
        have hC9 := ((Keeps.refl (fun _ => False) w8).drewN nq).blk hC8 (fun f => f)
        have hs9 := hs8.drewN nq
        have hsz9 : bc + 1 ≤ (w8.drewN nq).heap.size := hszd
        clear hF8 hR8 hB8 hC8 hs8 hszd q0 q1
        generalize w8.drewN nq = w9 at *
        have q0 : w9.cell? ⟨bc, 0, none⟩ = some (.int .u64 M) := hC9.cell' rfl
        have q1 : w9.cell? ⟨bc, 0 + 1, none⟩ = some (.string dM) := hC9.cell' rfl
        have hdd : Kept ([.int .u64 (M : Int), .string dM] = rootC k1 its M) := ⟨by rw [← hdM.out]; rfl⟩
        have hMb : (M + 1) * 24 ≤ 140737488355328 := by have := hM.out; omega
        have hR9l := fun b hb => (hR9.inA (k := b) hb).2
        have hB9l := fun b hb => (hB9.inA (k := b) hb).2
        go_wp2_with (at_builtin; refine append_one2 (bc + 1) rfl _ _ 31 34 (.agg #[.int .u64 0, .string ByteArray.empty]) 2 24 rfl (by kernel_rfl) infoRoot rfl (by decide) (by decide) R cr M _ [.int .u64 M, .string dM] rfl rfl rfl (by rw [hdd.out]; exact rootC_one _ _ _) hR9 hsz9 hMb ?_; intro R1 r1 wa hRa hka hda)
        go_roundw
        case rel =>
          refine ⟨j + 1, M, B1, cb1, R1, r1, by omega, by go_num, by rw [hNs.out], rfl, ⟨?_⟩, hF9.keep hka ?_ ?_, ⟨_, _, hka.blk hC9 ?_⟩, ?_, ?_, ?_, hs9.then hka ?_⟩
          · rw [hy.out, List.length_append, ← hm.out]; exact hM.out.symm
          · intro hb; have := (hR9.inA hb).1; omega
          · intro hb; have := (hR9.inA hb).1; omega
          · intro hb; have := (hR9.inA hb).1; omega
          · rw [hNs.out]; exact hB9.keep hka (fun b hb hb' => hap6 b hb hb')
          · rw [rootsC_succ, ← hdd.out]; exact hRa
          · intro b hb hb'
            rcases new_block hda b hb' with h | h
            · exact hap6 b hb h
            · have := hB9l b hb; omega
          · intro i hi hb; have := (hR9.inA hb).1; omega
        case measure => simp [intOf]; omega
        -- done>>
      · have Hfit := Kept.mk hfit
        have hy : Kept (takenOf (L.take (j + 1)) = takenOf (L.take j)) := ⟨taken_no L j hlt (by simpa [fits] using hfit)⟩
        have t1 : decide ((L[j].size : Int) ≤ 1048576) = false := decide_eq_false (by omega)
        clear hfit
        generalize L[j] = x at *
        -- <<done
        go_wp2_with fail
        refine (append_big (bm + 1) bm k1 its m x wr (by have := Hfit.out; omega) hsx.out).mono ?_
        rintro e w5 ⟨rfl, rfl⟩
        go_wp2_with (go_at_call 20; refine (num10_any _ _).mono ?_; rintro e w' ⟨rfl, rfl⟩)
        go_roundw
        case rel => exact ⟨j + 1, m, B, cb, R, cr, by omega, by go_num, rfl, rfl, ⟨by rw [hy.out]; exact hm.out⟩, hF, ⟨_, _, hC⟩, hB, hR, hap, hs⟩
        case measure => simp [intOf]; omega
        -- done>>
    · obtain rfl : j = L.length := by omega
      have hm70 : m ≤ 70 := by omega
      have Km : Kept (0 ≤ (m : Int) ∧ (m : Int) ≤ 1099511627776) := ⟨by omega⟩
      obtain ⟨N, hN⟩ : ∃ N, Kept (nodesOf m = N) := ⟨_, ⟨rfl⟩⟩
      have hNb : N ≤ 140 := by rw [← hN.out]; have : nodesOf m ≤ 2 * m := Nat.sub_le _ _; omega
      have Kent : Kept (∀ p, p < N → ((blockAt p).2 + 1) * 2 ^ (blockAt p).1 ≤ m ∧ (entD k1 its m)[p]? = some (tree k1 its (blockAt p).1 (blockAt p).2)) := ⟨fun p hp => entry_at k1 its m p (by omega) (by rw [hN.out]; exact hp)⟩
      rw [hN.out] at hB ⊢
      have hszr : bc + 1 ≤ wr.heap.size := hC.lt
      clear hm hlt hj
      go_wp2_with (first
        | (go_at_call 23; refine (fsize_any _ _ _ _ _ _ hF).mono ?_; rintro e w' ⟨rfl, rfl⟩)
        | (go_at_call 24; refine (nodes_any _ _ Km.out.1 Km.out.2).mono ?_; rintro e w1 ⟨rfl, rfl⟩; rw [Int.toNat_natCast, hN.out]))
      have hrow := hB.cells
      have hRl := fun b hb => (hR.inA (k := b) hb).1
      obtain ⟨gR, rfl, hgR, _, _⟩ := hR.form (by omega)
      obtain ⟨_, _, hRe, hRc⟩ := hR.cells.at_ (by
        intro h
        have := congrArg List.length h
        rw [rootsC_len] at this
        simp at this)
      cases hRe
      have HRc : Kept (∀ i, i < m + 1 → wr.cell? ⟨gR, i * 2, none⟩ = some (.int .u64 i) ∧ wr.cell? ⟨gR, i * 2 + 1, none⟩ = some (.string (hroot k1 i (peaks k1 its i)))) := ⟨fun i hi => by
        have h1 := hRc _ _ (rootsC_at k1 its (m + 1) i hi).1
        have h2 := hRc _ _ (rootsC_at k1 its (m + 1) i hi).2
        rw [Nat.zero_add] at h1 h2
        exact ⟨h1, h2⟩⟩
      clear hRc hB hR hap
      obtain ⟨wz, rfl⟩ : ∃ z : World, z = wr := ⟨_, rfl⟩
      go_loopw [16] (fun t wr => ∃ p : Nat, p ≤ N ∧ t = .int .i64 p ∧ Same wz wr) (fun t _ => N - (intOf t).toNat)
      case atStart => exact ⟨0, Nat.zero_le _, rfl, Keeps.refl _ _⟩
      case round =>
        obtain ⟨p, hp, rfl, hsz⟩ := hrel
        by_cases hlt : p < N
        · obtain ⟨hin, hat⟩ := Kent.out p hlt
          obtain ⟨⟨h, q⟩, hbq⟩ : ∃ x, Kept (blockAt (p : Int).toNat = x) := ⟨_, ⟨rfl⟩⟩
          have hbq' : blockAt p = (h, q) := by rw [← hbq.out, Int.toNat_natCast]
          rw [hbq'] at hin hat
          obtain ⟨D, hD⟩ : ∃ D, Kept (tree k1 its h q = D) := ⟨_, ⟨rfl⟩⟩
          have KF : Kept (fdig k1 its m (((blockAt (p : Int).toNat).1 : Nat), ((blockAt (p : Int).toNat).2 : Nat)) = some D) := ⟨by rw [hbq.out, ← hD.out]; exact fdig_in k1 its m h q hin⟩
          have KF2 : Kept (fdig k1 its m ((h : Int), (q : Int)) = some D) := ⟨by rw [← hD.out]; exact fdig_in k1 its m h q hin⟩
          have hDz : ((D.size : Int) != k1) = false := by
            rw [bne_eq_false_iff_eq, ← hD.out, tree_size, clampK_of k1 hk1.out.2.1 hk1.out.2.2]
            have := hk1.out
            omega
          have hq70 : q < 70 := by
            have h1 : q + 1 ≤ (q + 1) * 2 ^ h := Nat.le_mul_of_pos_right _ (Nat.two_pow_pos h)
            have h2 : (q + 1) * 2 ^ h ≤ m := hin
            omega
          have hFr := hF.same hsz
          have Kp : Kept (0 ≤ (p : Int) ∧ (p : Int) < 2199023255551) := ⟨by omega⟩
          have Kp2 : Kept ((p : Int) < nodesOf m) := ⟨by rw [hN.out]; omega⟩
          obtain ⟨gb, ob, hBe, hrc⟩ := (hrow.same hsz).at_ (by
            intro h
            have := congrArg List.length h
            rw [strs_len] at this
            have h2 := (List.getElem?_eq_some_iff.1 hat).1
            simp at this
            rw [this] at h2
            simp at h2)
          have hpc := hrc p (.string D) (by rw [strs, List.getElem?_map, hat, ← hD.out]; rfl)
          have hh40 : h ≤ 40 := by
            have h1 : 2 ^ h ≤ (q + 1) * 2 ^ h := Nat.le_mul_of_pos_left _ (Nat.succ_pos _)
            have h2 : (q + 1) * 2 ^ h ≤ m := hin
            rcases Nat.lt_or_ge h 40 with h3 | h3
            · omega
            · have : 2 ^ 40 ≤ 2 ^ h := Nat.pow_le_pow_right (by decide) h3
              omega
          have Hin := Kept.mk hin
          subst hBe
          clear hrc hat hin hbq'
          go_wp2_with fail
          refine (fnode_any (bm + 1) bm k1 its m p wr hFr Kp.out.1 Kp2.out).mono ?_
          rintro e w5 ⟨rfl, hs5⟩
          rw [KF.out]
          go_wp2_with fail
          refine (block_any _ _ Kp.out.1 Kp.out.2).mono ?_
          rintro e w6 ⟨rfl, hs6⟩
          rw [hbq.out]
          unfold blk
          go_wp2_with fail
          have hs7 := (hs5.trans hs6).alloc (.cells #[.int .i64 h, .int .u64 q] 45)
          have hF7 := hFr.same hs7
          have hB7 := Blk.new w6 45 [.int .i64 (h : Int), .int .u64 (q : Int)]
          refine (fdigest_any (bm + 1) bm k1 its m h q _ hF7).mono ?_
          rintro e w8 ⟨rfl, hs8⟩
          rw [KF2.out]
          have hs78 := hs7.trans hs8
          have hB8 := hs8.blk hB7 (fun f => f)
          have hsz8 := hsz.trans hs78
          have hF8 := hF7.same hs8
          have p8 := hs78.cell' hpc (fun f => f)
          generalize w6.heap.size = bb at *
          have b0 : w8.cell? ⟨bb, 0, none⟩ = some (.int .i64 h) := hB8.cell' rfl
          have b1 : w8.cell? ⟨bb, 1, none⟩ = some (.int .u64 q) := hB8.cell' rfl
          clear hs5 hs6 hs7 hF7 hB7 hs8 hs78 hpc hFr hsz
          by_cases hh0 : h = 0
          · subst hh0
            go_wp2_with fail
            go_roundw
            case rel => exact ⟨p + 1, by omega, by go_num, hsz8⟩
            case measure => simp [intOf]; omega
          · obtain ⟨g, rfl⟩ : ∃ g, h = g + 1 := ⟨h - 1, by omega⟩
            obtain ⟨hy1, hz1⟩ := half_in m g q Hin.out
            obtain ⟨Y, hY⟩ : ∃ Y, Kept (tree k1 its g (2 * q) = Y) := ⟨_, ⟨rfl⟩⟩
            obtain ⟨Z, hZ⟩ : ∃ Z, Kept (tree k1 its g (2 * q + 1) = Z) := ⟨_, ⟨rfl⟩⟩
            have KY : Kept (fdig k1 its m ((g : Int), 2 * (q : Int)) = some Y) := ⟨by have := fdig_in k1 its m g (2 * q) hy1; rw [Int.natCast_mul, hY.out] at this; exact this⟩
            have KZ : Kept (fdig k1 its m ((g : Int), 2 * (q : Int) + 1) = some Z) := ⟨by have := fdig_in k1 its m g (2 * q + 1) hz1; rw [Int.natCast_add, Int.natCast_mul, hZ.out] at this; exact this⟩
            have KD : Kept (hnode k1 Y Z = D) := ⟨by rw [← hD.out, ← hY.out, ← hZ.out]; rfl⟩
            have KYz : Kept (Y.size ≤ 1152921504606846976) := ⟨by rw [← hY.out, tree_size]; have := clampK_range k1; omega⟩
            have KZz : Kept (Z.size ≤ 1152921504606846976) := ⟨by rw [← hZ.out, tree_size]; have := clampK_range k1; omega⟩
            clear hy1 hz1
            -- <<done
            go_wp2_with fail
            refine (fdigest_any (bm + 1) bm k1 its m g (2 * (q : Int)) _ hF8).mono ?_
            rintro e w9 ⟨rfl, hs9⟩
            rw [KY.out]
            have hF9 := hF8.same hs9
            have b90 := hs9.cell' b0 (fun f => f)
            have b91 := hs9.cell' b1 (fun f => f)
            have hsz9 := hsz8.trans hs9
            clear b0 b1 hs9 hF8 hsz8
            go_wp2_with fail
            refine (fdigest_any (bm + 1) bm k1 its m g (2 * (q : Int) + 1) _ hF9).mono ?_
            rintro e wa ⟨rfl, hsa⟩
            rw [KZ.out]
            have hsza := hsz9.trans hsa
            clear b90 b91 hsa hF9 hsz9
            go_wp2_with (go_at_call 28; refine (hnode_any _ _ _ _ KYz.out KZz.out).mono ?_; rintro e wb ⟨rfl, hsb⟩; rw [KD.out])
            go_roundw
            case rel => exact ⟨p + 1, by omega, by go_num, hsza.trans hsb⟩
            case measure => simp [intOf]; omega
            -- done>>
        · obtain rfl : p = N := by omega
          have hF2 := hF.same hsz
          have hC2 := hsz.blk hC (fun f => f)
          have hs2 := hs.trans hsz
          have HR2 : Kept (∀ i, i < m + 1 → wr.cell? ⟨gR, i * 2, none⟩ = some (.int .u64 i) ∧ wr.cell? ⟨gR, i * 2 + 1, none⟩ = some (.string (hroot k1 i (peaks k1 its i)))) := ⟨fun i hi =>
            ⟨hsz.cell' (HRc.out i hi).1 (fun f => f), hsz.cell' (HRc.out i hi).2 (fun f => f)⟩⟩
          have hbsz : bc + 1 ≤ wr.heap.size := hC2.lt
          clear hF hC hs HRc hrow hlt hp hszr
          go_wp2_with fail
          obtain ⟨wy, rfl⟩ : ∃ z : World, z = wr := ⟨_, rfl⟩
          go_loopw [27] (fun t wr => ∃ i : Nat, i ≤ m + 1 ∧ t = .int .i64 i ∧ Keeps (· = bc) wy wr ∧ ∃ x y, Blk wr bc 34 [.int .u64 x, .string y]) (fun t _ => m + 1 - (intOf t).toNat)
          case atStart => exact ⟨0, Nat.zero_le _, rfl, Keeps.refl _ _, _, _, hC2⟩
          case round =>
            obtain ⟨i, hi, rfl, hk, x1, y1, hC⟩ := hrel
            have hF3 := hF2.keep hk (show ¬ bm + 1 = bc by omega) (show ¬ bm = bc by omega)
            by_cases hlt : i < m + 1
            · obtain ⟨dI, hdI⟩ : ∃ d, Kept (hroot k1 i (peaks k1 its i) = d) := ⟨_, ⟨rfl⟩⟩
              obtain ⟨r0', r1'⟩ := HR2.out i hlt
              rw [hdI.out] at r1'
              have e0 := hk.cell' r0' (show ¬ gR = bc by omega)
              have e1 := hk.cell' r1' (show ¬ gR = bc by omega)
              clear r0' r1'
              -- <<done
              go_wp2_with fail
              refine (froot_any (bm + 1) bm k1 its m i wr hF3 (by omega)).mono ?_
              rintro e w5 ⟨rfl, hs5⟩
              rw [hdI.out]
              unfold rootV
              have hC5 := hs5.blk hC (fun f => f)
              have f0 := hs5.cell' e0 (fun f => f)
              have f1 := hs5.cell' e1 (fun f => f)
              clear e0 e1 hC
              go_wp2_with (refine wpList_store_blk rfl 34 _ _ rfl bc [.int .u64 i, .string dI] rfl rfl 34 _ hC5 (by kernel_rfl) rfl (by simp [Value.oneCell']) ?_; intro w8 hC8 hk8 hsz8)
              have g0 := hk8.cell' f0 (show ¬ gR = bc by omega)
              have g1 := hk8.cell' f1 (show ¬ gR = bc by omega)
              have q0 : w8.cell? ⟨bc, 0, none⟩ = some (.int .u64 i) := hC8.cell' rfl
              have q1 : w8.cell? ⟨bc, 0 + 1, none⟩ = some (.string dI) := hC8.cell' rfl
              have hk9 : Keeps (· = bc) wy w8 := (hk.then hs5 (fun _ _ f => f.elim)).trans hk8
              clear f0 f1 hC5 hk hs5 hk8 hsz8 hF3
              go_wp2_with fail
              go_quiet ((go_at_call 20; exact quiet_ww (num10_any _ _)))
              have hka := hk9.drewN nq
              have hCa := ((Keeps.refl (fun _ => False) w8).drewN nq).blk hC8 (fun f => f)
              go_wp2_with fail
              go_roundw
              case rel => exact ⟨i + 1, by omega, by go_num, hka, _, _, hCa⟩
              case measure => simp [intOf]; omega
              -- done>>
            · obtain rfl : i = m + 1 := by omega
              have KN : Kept (((nodesOf m : Nat) : Int) ≤ (p : Int)) := ⟨by rw [hN.out]; exact Int.le_refl _⟩
              have hs3 : Same w wr := hs2.then hk (fun i hi e => by have e' : i = bc := e; omega)
              go_wp2_with fail
              refine (fnode_beyond (bm + 1) bm k1 its m p wr hF3 KN.out).mono ?_
              rintro e w5 ⟨rfl, rfl⟩
              go_wp2_with (first
                | (go_at_call 23; refine (fsize_any _ _ _ _ _ _ hF3).mono ?_; rintro e w' ⟨rfl, rfl⟩))
              refine (froot_big (bm + 1) bm k1 its m ((m : Int) + 1) wr hF3 (by omega)).mono ?_
              rintro e w6 ⟨rfl, hs6⟩
              unfold rootV
              go_wp2_with (go_at_call 20; refine (num10_any _ _).mono ?_; rintro e w' ⟨rfl, rfl⟩)
              go_ret
              exact ⟨rfl, hs3.trans hs6⟩

theorem walk_ForestRow (a0 : Int) (a1 : Option Addr) (len1 cap1 : Nat) (l1 : List ByteArray) (W : World) (_w0 : (Lit.int .i64 a0).wf = true) (w1 : StrsIn W a1 len1 cap1 l1) :
    Calls Try.prog 3 #[.int .i64 a0, .slice a1 len1 cap1] W fun e w' => e = .returned (.bool true) ∧ Same W w' := row10_any a0 a1 len1 cap1 l1 W w1
end Go.Proofs.Ytkokagbmmlngjaa
