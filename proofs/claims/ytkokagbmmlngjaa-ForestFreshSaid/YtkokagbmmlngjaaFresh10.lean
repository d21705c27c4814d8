/- ForestFresh: what it computes is true. -/
import Derived.Test.YtkokagbmmlngjaaRow10
import Derived.Test.YtkokagbmmlngjaaFam
namespace Go.Proofs.Ytkokagbmmlngjaa
open Go.RowKit
set_option maxRecDepth 100000

def leafNs (n : Nat) : List (Nat × Nat) := (List.range n).map fun i => (0, i)
def leaves (n : Nat) : List Bk := toBk (leafNs n)
theorem leaves_len (n : Nat) : (leaves n).length = n := by simp [leaves, toBk, leafNs]
theorem leaves_succ (n : Nat) : bkcells (leaves (n + 1)) = bkcells (leaves n) ++ bcells 0 n := by
  unfold leaves leafNs toBk bkcells
  rw [List.range_succ]
  simp
def leafDs (k : Int) (its : Nat → ByteArray) (n : Nat) : List ByteArray := (leafNs n).map fun b => tree k its b.1 b.2
theorem leafDs_len (k : Int) (its : Nat → ByteArray) (n : Nat) : (leafDs k its n).length = n := by simp [leafDs, leafNs]
theorem digs_leaves (k : Int) (its : Nat → ByteArray) (n m : Nat) (h : n ≤ m) : digs k its m (leaves n) = some (leafDs k its n) :=
  digs_all k its m (leafNs n) fun b hb => by
    obtain ⟨i, hi, rfl⟩ := List.mem_map.1 hb
    have := List.mem_range.1 hi
    simp
    omega
theorem infoStrs : Info Try.prog 22 (.slice none 0 0) 1 24 := by
  unfold Info
  kernel_rfl
def mk10 (t : Nat) : Value := .string (markOf t)

set_option maxHeartbeats 8000000 in
theorem fresh10_any (k : Int) (A : Option Addr) (n c : Nat) (l : List ByteArray) (w : World) (hI : StrsIn w A n c l) :
    Calls Try.prog 4 #[.int .i64 k, .slice A n c] w fun e w' => e = .returned (.bool true) ∧ Same w w' := by
  obtain ⟨k1, hk1⟩ : ∃ k1, Kept (strengthOf k = k1 ∧ 1 ≤ k1 ∧ k1 ≤ 32) := ⟨_, ⟨rfl, strengthOf_range k⟩⟩
  obtain ⟨L, hL⟩ : ∃ L, Kept (l.take 70 = L) := ⟨_, ⟨rfl⟩⟩
  have hL70 : L.length ≤ 70 := by rw [← hL.out, List.length_take]; omega
  have hIL := hI.take 70
  rw [hL.out] at hIL
  go_enter Try.func4, Try.ntmps4
  go_wp2_with fail
  refine (alive10_any _).mono ?_
  rintro e w1 ⟨rfl, hs1⟩
  have hI1 := hI.keep hs1
  have hIL1 := hIL.keep hs1
  go_wp2_with (first
    | (go_at_call 17; refine (strength10_any _ _).mono ?_; rintro e w' ⟨rfl, rfl⟩; rw [hk1.out.1])
    | (go_at_call 18; refine (few10_any _ _ _ l _ hI1).mono ?_; rintro e w' ⟨rfl, rfl⟩; rw [hL.out]))
  refine (grown10_any k1 A L.length c L (itsOf (takenOf L)) w1 hk1.out.2 hIL1 (by omega) (fun _ _ => rfl)).mono ?_
  rintro e w2 ⟨bf1, bm1, D, cd, rfl, hbf1, hbm1, hG2, hD2, hD2n, hs2⟩
  have hm70 : (takenOf L).length ≤ 70 := Nat.le_trans (takenOf_le L) hL70
  have hfit : Kept (∀ x ∈ takenOf L, x.size ≤ 1048576) := ⟨taken_fit L⟩
  generalize takenOf L = T at *
  obtain ⟨its, hits⟩ : ∃ its, Kept (itsOf T = its) := ⟨_, ⟨rfl⟩⟩
  rw [hits.out] at hG2
  have Hits : Kept (∀ i, (h : i < T.length) → its i = T[i]) := ⟨fun i h => by rw [← hits.out]; exact itsOf_at T i h⟩
  have hDc := hD2.cells
  have hDlt := fun b hb => (hD2.inA (k := b) hb).2
  have hs02 := hs1.trans hs2
  clear hI1 hIL1 hD2 hIL hits
  go_wp2_with fail
  refine (fnew_any k1 its _ hk1.out.2.1 hk1.out.2.2).mono ?_
  rintro e w3 ⟨rfl, hs3, hF3⟩
  have hG3 := hG2.same hs3
  have hDc3 := hDc.same hs3
  have hs03 := hs02.trans hs3
  have hsz3 : w2.heap.size + 1 < w3.heap.size := hF3.cells.lt
  have hGlt : bf1 < w2.heap.size ∧ bm1 < w2.heap.size := ⟨hG2.cells.lt, hG2.map.lt⟩
  have hsz2 : w.heap.size ≤ w2.heap.size := hs02.size
  generalize w2.heap.size = bm at *
  clear hs1 hs2 hs3 hs02 hG2 hDc
  go_wp2_with (go_at_call 20; refine (num10_any _ _).mono ?_; rintro e w' ⟨rfl, rfl⟩)
  obtain ⟨base, hbase⟩ : ∃ base, Kept (w3.heap.size = base) := ⟨_, ⟨rfl⟩⟩
  have hsz3b : bm + 1 < base := by rw [← hbase.out]; exact hsz3
  have hb3 : base ≤ w3.heap.size := by rw [hbase.out]; exact Nat.le_refl _
  clear hsz3
  go_loopw [10, 12, 13] (fun all blocks i wr => ∃ (j : Nat) (Ba Bb : Option Addr) (ca cb : Nat) (F : List Sl), j ≤ T.length ∧ i = .int .i64 j ∧ all = .slice Ba (3 * j) ca ∧ blocks = .slice Bb j cb ∧ F.length = 3 * j ∧ (∀ s ∈ F, s.n ≤ 100) ∧
      IsForest wr (bm + 1) bm k1 its j ∧ Own wr base 22 1 Ba ca (3 * j) (Sl.vs F) ∧ Own wr base 45 2 Bb cb j (bkcells (leaves j)) ∧ Fam wr base 9 1 F ∧
      (∀ k, InA Ba k → ¬ InA Bb k ∧ ¬ InF F k) ∧ (∀ k, InA Bb k → ¬ InF F k) ∧ Keeps (fun b => b = bm + 1 ∨ b = bm) w3 wr) (fun _ _ i _ => T.length - (intOf i).toNat)
  case atStart =>
    exact ⟨0, none, none, 0, 0, [], Nat.zero_le _, rfl, rfl, rfl, rfl, (fun s hs => by simp at hs), hF3, Own.none _ _ _ _, Own.none _ _ _ _, Fam.nil _ _ _ _, (fun k hk => by obtain ⟨a, ha, _⟩ := hk; cases ha), (fun k hk => by obtain ⟨a, ha, _⟩ := hk; cases ha), Keeps.refl _ _⟩
  case round =>
    clear hF3
    obtain ⟨j, Ba, Bb, ca, cb, F, hj, rfl, rfl, rfl, hFl, hFn, hF, hBa, hBb, hFam, hap1, hap2, hk⟩ := hrel
    by_cases hlt : j < T.length
    · have hne : strs T ≠ [] := by
        intro h
        have := strs_at T j hlt
        rw [h] at this
        cases this
      have hDk := hDc3.keep hk (fun b hb e => by have := hDlt b hb; omega)
      obtain ⟨b, o, hA1, hca⟩ := hDk.at_ hne
      subst hA1
      have l0 := hca _ _ (strs_at T j hlt)
      have hat : Kept (its j = T[j]) := ⟨Hits.out j hlt⟩
      have hfx : Kept (T[j].size ≤ 1048576) := ⟨hfit.out _ (List.getElem_mem hlt)⟩
      generalize T[j] = x at *
      obtain ⟨tr, htr⟩ : ∃ tr, Kept (trail (j + 1) + 1 = tr) := ⟨_, ⟨rfl⟩⟩
      have htrb : tr ≤ 65 := by
        have := (trailFrom_range (j + 1) 64 0).2
        rw [← htr.out]; unfold trail; omega
      obtain ⟨J, hJ⟩ : ∃ J, Kept (j + 1 = J) := ⟨_, ⟨rfl⟩⟩
      clear hca hne hDk
      -- <<done
      go_wp2_with fail
      refine (append_any (bm + 1) bm k1 its j x wr hfx.out (by omega) hat.out hF).mono ?_
      rintro e w5 ⟨X, cx, rfl, hX, hF5, hk5⟩
      rw [htr.out] at hX ⊢
      obtain ⟨xs, hxs⟩ : ∃ xs, Kept (strs ((newBs k1 its j).map (·.2)) = xs) := ⟨_, ⟨rfl⟩⟩
      rw [hxs.out] at hX
      rw [hJ.out] at hF5
      have hkk5 := hk.trans hk5
      have hBa5 := hBa.keep hk5 (fun b hb e => by have := (hBa.inA hb).1; omega)
      have hBb5 := hBb.keep hk5 (fun b hb e => by have := (hBb.inA hb).1; omega)
      have hFam5 := hFam.keep hk5 (fun b hb e => by have := (hFam.range hb).1; omega)
      have hszr := hk.size
      have hsz5 := hk5.size
      have hszb : base ≤ w5.heap.size := by omega
      have hBal := fun b hb => (hBa.inA (k := b) hb).2
      have hBbl := fun b hb => (hBb.inA (k := b) hb).2
      have hFl5 := fun b hb => (hFam.range (k := b) hb).2
      have hXl := fun b hb => (hX.inA (k := b) hb)
      have hjb : (j + 1) * 16 ≤ 140737488355328 := by omega
      clear hF hBa hBb hFam hk hk5
      go_wp2_with (first
        | (go_at_call 20; refine (num10_any _ _).mono ?_; rintro e w' ⟨rfl, rfl⟩)
        | (at_builtin; refine append_one2 base rfl _ _ 54 45 (.agg #[.int .i64 0, .int .u64 0]) 2 16 rfl (by kernel_rfl) infoBlock rfl (by decide) (by decide) Bb cb j _ (bcells 0 j) rfl rfl rfl (bks_one 0 j ▸ bks_oneCell [(0, j)]) hBb5 hszb hjb ?_; intro Bb1 cb1 w6 hBb6 hk6 hd6))
      have hF6 := hF5.keep hk6 (fun hb => by have := (hBb5.inA hb).1; omega) (fun hb => by have := (hBb5.inA hb).1; omega)
      have hBa6 := hBa5.keep hk6 (fun b hb hb' => (hap1 b hb).1 hb')
      have hFam6 := hFam5.keep hk6 (fun b hb hb' => hap2 b hb' hb)
      have hX6 := (hX.keep hk6 (fun b hb hb' => by have := (hXl b hb).1; have := hBbl b hb'; omega)).below (show base ≤ wr.heap.size by omega)
      have hkk6 := hkk5.then hk6 (fun i hi hb => by have := (hBb5.inA hb).1; have := hbase.out; omega)
      have hBb1 := new_block hd6
      have hd6x : ∀ b, InA Bb1 b → InA Bb b ∨ (w5.heap.size ≤ b ∧ b < w6.heap.size) := fun b hb => (hBb1 b hb).imp id (fun h => ⟨h, (hBb6.inA hb).2⟩)
      have hsz6 := hk6.size
      rw [hJ.out] at hBb6 ⊢
      rw [show bkcells (leaves j) ++ bcells 0 j = bkcells (leaves J) by rw [← hJ.out, leaves_succ]] at hBb6
      obtain ⟨R, hR⟩ : ∃ R, Kept (leafDs k1 its J = R) := ⟨_, ⟨rfl⟩⟩
      have hRl : Kept (R.length = J) := ⟨by rw [← hR.out, leafDs_len]⟩
      have hdl : Kept (digs k1 its J (leaves J) = some R) := ⟨by rw [← hR.out]; exact digs_leaves k1 its J J (Nat.le_refl _)⟩
      have hJb : J ≤ 70 := by rw [← hJ.out]; omega
      have hd1 := fdigests_any (bm + 1) bm k1 its J Bb1 cb1 (leaves J) w6 hF6 (by rw [leaves_len]; omega) hBb6.cells
      rw [leaves_len, hdl.out] at hd1
      have Hd1 := Kept.mk hd1
      clear hd1 hk6 hd6 hBb5 hF5 hBa5 hFam5 hX hkk5
      refine (Hd1.out).mono ?_
      rintro e w7 ⟨hs7, Y, cy, rfl, hY⟩
      rw [hRl.out] at hY ⊢
      have hF7 := hF6.same hs7
      have hBb7 := hBb6.same hs7
      go_wp2_with fail
      have hd2 := fdigests_any (bm + 1) bm k1 its J Bb1 cb1 (leaves J) w7 hF7 (by rw [leaves_len]; omega) hBb7.cells
      rw [leaves_len, hdl.out] at hd2
      have Hd2 := Kept.mk hd2
      clear hd2 Hd1
      refine (Hd2.out).mono ?_
      rintro e w8 ⟨hs8, Z, cz, rfl, hZ⟩
      rw [hRl.out] at hZ ⊢
      have hY8 := hY.same hs8
      have hYc := hY8.cells
      have hZc := hZ.cells
      have hs68 := hs7.trans hs8
      have hF8 := hF6.same hs68
      have hBa8 := hBa6.same hs68
      have hBb8 := hBb6.same hs68
      have hFam8 := hFam6.same hs68
      have hX8 := hX6.same hs68
      have hkk8 := hkk6.then hs68 (fun _ _ f => f.elim)
      have hsz7 := hs7.size
      have hsz8 := hs8.size
      have hYl := fun b hb => hY.inA (k := b) hb
      have hZl := fun b hb => hZ.inA (k := b) hb
      have KJ : Kept (J ≤ 9223372036854775807) := ⟨by omega⟩
      clear hF6 hF7 hBa6 hBb6 hBb7 hFam6 hX6 hkk6 hs7 hs8 hs68 hY Hd2
      go_wp2_with fail
      refine (same10_yes Y Z J cy cz R w8 hRl.out KJ.out hYc hZc).mono ?_
      rintro e w9 ⟨rfl, hs9⟩
      have hF9 := hF8.same hs9
      have hBa9 := (hBa8.same hs9).same ((Keeps.refl (fun _ => False) w9).alloc (.cells #[.slice X tr cx, .slice Y J cy, .slice Z J cz] 22))
      have hBb9 := hBb8.same hs9
      have hFam9 := hFam8.same hs9
      have hX9 := hX8.same hs9
      have hY9 := (hY8.same hs9).below (show base ≤ w6.heap.size by omega)
      have hZ9 := (hZ.same hs9).below (show base ≤ w7.heap.size by omega)
      have hkk9 := hkk8.then hs9 (fun _ _ f => f.elim)
      have hsz9 := hs9.size
      have hbx := (Blk.new w9 22 [.slice X tr cx, .slice Y J cy, .slice Z J cz])
      have hbxc : Cells (w9.alloc (.cells #[.slice X tr cx, .slice Y J cy, .slice Z J cz] 22)) (some ⟨w9.heap.size, 0, none⟩) [.slice X tr cx, .slice Y J cy, .slice Z J cz] :=
        .inr ⟨_, 0, rfl, fun i v hv => by rw [Nat.zero_add]; exact hbx.cell' hv⟩
      have hk9a := (Keeps.refl (fun _ => False) w9).alloc (.cells #[.slice X tr cx, .slice Y J cy, .slice Z J cz] 22)
      have hj3 : (3 * j + 3) * 24 ≤ 140737488355328 := by omega
      have hbal : base ≤ (w9.alloc (.cells #[.slice X tr cx, .slice Y J cy, .slice Z J cz] 22)).heap.size := by rw [World.size_alloc]; omega
      clear hF8 hBa8 hBb8 hFam8 hX8 hkk8 hs9 hY8 hYc hZc hZ hbx
      go_wp2_with (at_builtin; refine append_many2 base rfl _ _ 53 22 (.slice none 0 0) 1 24 rfl (by kernel_rfl) infoStrs rfl (by decide) (by decide) Ba ca (3 * j) _ (some ⟨w9.heap.size, 0, none⟩) 3 3 [.slice X tr cx, .slice Y J cy, .slice Z J cz] rfl rfl rfl (by simp [Value.oneCell']) hBa9 hbxc (fun h => by cases h) hbal hj3 ?_; intro Ba1 ca1 wa hBaa hka hda)
      obtain ⟨hJe⟩ := hJ
      subst hJe
      have hk9 : Keeps (InA Ba) w9 wa := ((Keeps.refl (InA Ba) w9).alloc _).trans hka
      have hda' := new_block hda
      have hsza : (w9.alloc (.cells #[.slice X tr cx, .slice Y (j + 1) cy, .slice Z (j + 1) cz] 22)).heap.size = w9.heap.size + 1 := World.size_alloc _ _
      have hXf : ∀ k, InA X k → ¬ InF F k := fun k h1 h2 => by have := hXl k h1; have := hFl5 k h2; omega
      have hP1 := hFam9.push (s := ⟨X, cx, tr, xs⟩) hX9 hXf
      have hP2 := hP1.push (s := ⟨Y, cy, j + 1, strs R⟩) hY9 (fun k h1 h2 => by
        have h3 := hYl k h1
        rcases h2.push with h2 | h2
        · have := hFl5 k h2; omega
        · have := hXl k h2; omega)
      have hP3 := hP2.push (s := ⟨Z, cz, j + 1, strs R⟩) hZ9 (fun k h1 h2 => by
        have h3 := hZl k h1
        rcases h2.push with h2 | h2
        · rcases h2.push with h2 | h2
          · have := hFl5 k h2; omega
          · have := hXl k h2; omega
        · have := hYl k h2; omega)
      have hlow : ∀ k, InF (F ++ [⟨X, cx, tr, xs⟩] ++ [⟨Y, cy, j + 1, strs R⟩] ++ [⟨Z, cz, j + 1, strs R⟩]) k → InF F k ∨ (wr.heap.size ≤ k ∧ k < w8.heap.size ∧ ¬ (w5.heap.size ≤ k ∧ k < w6.heap.size)) := by
        intro k h2
        rcases h2.push with h2 | h2
        · rcases h2.push with h2 | h2
          · rcases h2.push with h2 | h2
            · exact .inl h2
            · have := hXl k h2; right; omega
          · have := hYl k h2; right; omega
        · have := hZl k h2; right; omega
      have hBb1l := fun b hb => (hBb9.inA (k := b) hb).2
      go_roundw
      case rel =>
        refine ⟨j + 1, Ba1, Bb1, ca1, cb1, F ++ [⟨X, cx, tr, xs⟩] ++ [⟨Y, cy, j + 1, strs R⟩] ++ [⟨Z, cz, j + 1, strs R⟩], by omega, by go_num, ?_, rfl, by simp only [List.length_append, List.length_singleton]; omega, ?_, hF9.keep hk9 ?_ ?_, ?_, hBb9.keep hk9 ?_, hP3.keep hk9 ?_, ?_, ?_, hkk9.then hk9 ?_⟩
        · rw [show 3 * (j + 1) = 3 * j + 3 by omega]
        · intro s hs
          simp only [List.mem_append, List.mem_singleton] at hs
          rcases hs with ((hs | rfl) | rfl) | rfl
          · exact hFn s hs
          · show tr ≤ 100; omega
          · show j + 1 ≤ 100; omega
          · show j + 1 ≤ 100; omega
        · intro hb; have := (hBa9.inA hb).1; omega
        · intro hb; have := (hBa9.inA hb).1; omega
        · rw [show 3 * (j + 1) = 3 * j + 3 by omega]
          have e1 : Sl.vs (F ++ [⟨X, cx, tr, xs⟩] ++ [⟨Y, cy, j + 1, strs R⟩] ++ [⟨Z, cz, j + 1, strs R⟩]) = Sl.vs F ++ [.slice X tr cx, .slice Y (j + 1) cy, .slice Z (j + 1) cz] := by
            simp [Sl.vs, Sl.v]
          rw [e1]
          exact hBaa
        · intro b hb hb'
          rcases hBb1 b hb with h | h
          · exact (hap1 b hb').1 h
          · have := hBal b hb'; omega
        · intro b hb hb'
          rcases hlow b hb with h | h
          · exact (hap1 b hb').2 h
          · have := hBal b hb'; omega
        · intro b hb
          rcases hda' b hb with h | h
          · refine ⟨fun h2 => ?_, fun h2 => ?_⟩
            · rcases hBb1 b h2 with h3 | h3
              · exact (hap1 b h).1 h3
              · have := hBal b h; omega
            · rcases hlow b h2 with h3 | h3
              · exact (hap1 b h).2 h3
              · have := hBal b h; omega
          · refine ⟨fun h2 => ?_, fun h2 => ?_⟩
            · have := hBb1l b h2; omega
            · rcases hlow b h2 with h3 | h3
              · have := hFl5 b h3; omega
              · omega
        · intro b hb h2
          rcases hBb1 b hb with h | h
          · rcases hlow b h2 with h3 | h3
            · exact hap2 b h h3
            · have := hBbl b h; omega
          · rcases hlow b h2 with h3 | h3
            · have := hFl5 b h3; omega
            · have h6 := hd6x b hb
              rcases h6 with h6 | h6
              · have := hBbl b h6; omega
              · omega
        · intro i hi hb; have := (hBa9.inA hb).1; have := hbase.out; omega
      case measure => simp [intOf]; omega
      -- done>>
    · obtain rfl : j = T.length := by omega
      have hmm : 3 * T.length ≤ 210 := by omega
      obtain ⟨M, hM⟩ : ∃ M, Kept (3 * T.length = M) := ⟨_, ⟨rfl⟩⟩
      rw [hM.out] at hFl hBa hmm ⊢
      have hszr : base ≤ wr.heap.size := by have := hk.size; omega
      have hG := hG3.keep hk (by omega) (by omega)
      have hs0 : Same w wr := hs03.then hk (fun i hi e => by omega)
      have hap3 : ∀ k, InA Ba k → ¬ InF F k := fun k h => (hap1 k h).2
      have hbwb : w.heap.size ≤ base := by omega
      have hGb : bf1 < base ∧ bm1 < base := by omega
      clear hk hBb hap1 hap2 hb3 hG3 hDc3 hs03 hj hlt hbase
      go_wp2_with fail
      obtain ⟨w4, rfl⟩ : ∃ z : World, z = wr := ⟨_, rfl⟩
      go_loopw [20] (fun i wr => ∃ (t : Nat) (H : List Sl), t ≤ M ∧ i = .int .i64 t ∧ Sl.vs H = Sl.vs F ∧ H.length = M ∧ (∀ s ∈ H, s.n ≤ 100) ∧ Own wr base 22 1 Ba ca M (Sl.vs H) ∧ Fam wr base 9 1 H ∧
          Kept (∀ u, (h : u < H.length) → u < t → H[u].xs = List.replicate H[u].n (mk10 u)) ∧ Keeps (base ≤ ·) w4 wr) (fun i _ => M - (intOf i).toNat)
      case atStart => exact ⟨0, F, Nat.zero_le _, rfl, rfl, hFl, hFn, hBa, hFam, ⟨fun u h hu => by omega⟩, Keeps.refl _ _⟩
      case round =>
        obtain ⟨t, H, ht, rfl, hHv, hHl, hHn, hO, hH, hdone, hk⟩ := hrel
        by_cases hlt : t < M
        · -- <<done
          go_wp2_with fail
          have htH : t < H.length := by omega
          obtain ⟨s, hs⟩ : ∃ s, Kept (H[t] = s) := ⟨_, ⟨rfl⟩⟩
          have hsn : s.n ≤ 100 := by rw [← hs.out]; exact hHn _ (List.getElem_mem htH)
          have hcell0 : (Sl.vs H)[t]? = some (.slice s.A s.n s.c) := by rw [Sl.vs_at H t htH, hs.out]
          have hset : Kept (∀ xs, Sl.vs (H.set t ⟨s.A, s.c, s.n, xs⟩) = Sl.vs H) := ⟨fun xs => by have := vs_set H t htH xs; rw [hs.out] at this; exact this⟩
          have hself : Kept (H.set t ⟨s.A, s.c, s.n, s.xs⟩ = H) := ⟨by have := hs.out; subst this; exact List.set_getElem_self htH⟩
          have hgetS : Kept (∀ xs (h : t < (H.set t ⟨s.A, s.c, s.n, xs⟩).length), (H.set t ⟨s.A, s.c, s.n, xs⟩)[t] = ⟨s.A, s.c, s.n, xs⟩) := ⟨fun xs h => List.getElem_set_self h⟩
          obtain ⟨At, ct, nt, xt⟩ := s
          simp only at hsn hcell0
          obtain ⟨ga, rfl, hga, _, _⟩ := hO.form (by omega)
          go_loopw [21] (fun jv w' => ∃ (j : Nat) (xs : List Value), j ≤ nt ∧ jv = .int .i64 j ∧ Kept (∀ u, u < j → xs[u]? = some (mk10 t)) ∧ Own w' base 22 1 (some ⟨ga, 0, none⟩) ca M (Sl.vs H) ∧
              Fam w' base 9 1 (H.set t ⟨At, ct, nt, xs⟩) ∧ Keeps (base ≤ ·) w4 w') (fun jv _ => nt - (intOf jv).toNat)
          case atStart => exact ⟨0, xt, Nat.zero_le _, rfl, ⟨fun u hu => by omega⟩, hO, by rw [hself.out]; exact hH, hk⟩
          case round =>
            clear hO hH hk
            obtain ⟨j, xs, hj, rfl, hmk, hO, hH, hk⟩ := hrel
            obtain ⟨_, _, hOe, hOc⟩ := hO.cells.at_ (by
              intro h
              rw [h] at hcell0
              cases hcell0)
            cases hOe
            have c0 := hOc _ _ hcell0
            rw [Nat.zero_add] at c0
            have hOt := hH.own t (by rw [List.length_set]; exact htH)
            rw [hgetS.out] at hOt
            have hOt' : Own wr base 9 1 At ct nt xs := hOt
            by_cases hlj : j < nt
            · obtain ⟨gt, rfl, hgt, hgtl, _⟩ := hOt'.form (by omega)
              have hxl : xs.length = nt := by have := hOt'.len; omega
              obtain ⟨_, _, hTe, hTc⟩ := hOt'.cells.at_ (by intro h; rw [h] at hxl; simp at hxl; omega)
              cases hTe
              have x0 := hTc j _ (List.getElem?_eq_getElem (show j < xs.length by omega))
              rw [Nat.zero_add] at x0
              have f0 := hOt'.frozen j
              have Kt : Kept (t ≤ 9223372036854775807) := ⟨by omega⟩
              have hne : ∀ w5, Same wr.drew w5 → w5.cell? ⟨gt, j, none⟩ = some xs[j] ∧ w5.frozen? ⟨gt, j, none⟩ = false := fun w5 h => ⟨h.cell' x0 (fun f => f), (h.frozen hgtl (fun f => f)).trans f0⟩
              have Hne := Kept.mk hne
              have hgne : ga ≠ gt := fun h => by
                subst h
                refine hap3 ga ⟨_, rfl, rfl⟩ (vs_InF hHv ga (vs_InF (hset.out xs) ga ⟨t, by rw [List.length_set]; exact htH, ?_⟩))
                rw [hgetS.out]
                exact ⟨_, rfl, rfl⟩
              clear hTc hOc hne
              go_wp2_with fail
              go_region_held3 (fun w' => w'.cell? ⟨ga, t, none⟩ = some (.slice (some ⟨gt, 0, none⟩) nt ct))
                (first
                  | exact c0
                  | exact hs6.cell' c0 (fun f => f)
                  | exact ((Keeps.refl (· = gt) w6).setCell (p := ⟨gt, j, none⟩) (.inl rfl) _).cell' (hs6.cell' c0 (fun f => f)) (show ¬ ga = gt from hgne)
                  | fail)
                (first
                  | (go_at_call 32; refine (mark10_any t _ Kt.out).mono ?_; rintro e w6 ⟨rfl, hs6⟩; obtain ⟨x6, f6⟩ := Hne.out _ hs6)
                  | fail)
              have hk6 : Same wr w6 := (Keeps.refl (fun _ => False) wr).drew.trans hs6
              have hF6 := (hH.same hk6).mark_set htH gt rfl j (mk10 t)
              have hO6 := (hO.same hk6).keep ((Keeps.refl (· = gt) w6).setCell (p := ⟨gt, j, none⟩) (.inl rfl) (mk10 t)) (fun b hb e => by
                obtain ⟨a, ha, hab⟩ := hb
                cases ha
                have e' : b = gt := e
                have hab' : ga = b := hab
                omega)
              have hkk : Keeps (base ≤ ·) w4 (w6.setCell ⟨gt, j, none⟩ (mk10 t)) := (hk.then hk6 (fun _ _ f => f.elim)).setCell (p := ⟨gt, j, none⟩) (.inl hgt) _
              go_wp2_with fail
              go_roundw
              case rel => exact ⟨j + 1, xs.set j (mk10 t), by omega, by go_num, ⟨marks_set hmk.out (by omega)⟩, hO6, hF6, hkk⟩
              case measure => simp [intOf]; omega
            · obtain rfl : j = nt := by omega
              have hxs : Kept (xs = List.replicate j (mk10 t)) := ⟨all_marks (by have := hOt'.len; omega) hmk.out⟩
              go_wp2_with fail
              go_roundw
              case rel =>
                refine ⟨t + 1, H.set t ⟨At, ct, j, xs⟩, by omega, by go_num, (hset.out xs).trans hHv, by rw [List.length_set]; exact hHl, ?_, by rw [hset.out]; exact hO, hH, ⟨?_⟩, hk⟩
                · intro s hs
                  rcases List.mem_or_eq_of_mem_set hs with h | rfl
                  · exact hHn s h
                  · exact hsn
                · intro u hu1 hu2
                  rw [List.length_set] at hu1
                  rw [List.getElem_set]
                  split
                  · rename_i e; subst e; exact hxs.out
                  · exact hdone.out u hu1 (by omega)
              case measure => simp [intOf]; omega
          -- done>>
        · obtain rfl : M = t := by omega
          have hdone' : Kept (∀ u, (h : u < H.length) → H[u].xs = List.replicate H[u].n (mk10 u)) := ⟨fun u h => hdone.out u h (by omega)⟩
          have hF5 := hF.keep hk (show ¬ base ≤ bm + 1 by omega) (show ¬ base ≤ bm by omega)
          have hG5 := hG.keep hk (show ¬ base ≤ bf1 by omega) (show ¬ base ≤ bm1 by omega)
          have hs5 := hs0.then hk (fun i hi h => by have h' : base ≤ i := h; omega)
          have hap5 : ∀ k, InA Ba k → ¬ InF H k := fun k h h' => hap3 k h (vs_InF hHv k h')
          have hsz5 := hk.size
          clear hBa hFam hF hG hs0 hap3 hFl hHv hFn hdone hk hlt ht
          go_wp2_with fail
          obtain ⟨w5, rfl⟩ : ∃ z : World, z = wr := ⟨_, rfl⟩
          obtain ⟨b2, hb2⟩ : ∃ b, Kept (w5.heap.size = b) := ⟨_, ⟨rfl⟩⟩
          have hMk : Marks w5 base b2 9 H H := by rw [← hb2.out]; exact Marks.start hH
          have hb2b : base ≤ b2 := by rw [← hb2.out]; omega
          have hBab : ∀ k, InA Ba k → k < b2 := fun k h => by have := (hO.inA h).2; rw [hb2.out] at this; exact this
          have hwb2 : b2 ≤ w5.heap.size := by rw [hb2.out]; exact Nat.le_refl _
          go_loopw [11, 22] (fun more i wr => ∃ (t : Nat) (G : List Sl) (Bm : Option Addr) (cm : Nat), t ≤ M ∧ i = .int .i64 t ∧ more = .slice Bm t cm ∧ Marks wr base b2 9 H G ∧
              Kept (∀ u, (hu : u < G.length) → u < t → (∀ h : u < H.length, G[u].n = H[u].n + 12) ∧ G[u].xs = List.replicate G[u].n (mk10 u)) ∧ Kept (∀ u, t ≤ u → G[u]? = H[u]?) ∧
              Own wr b2 22 1 Bm cm t (Sl.vs (G.take t)) ∧ (∀ k, InA Bm k → ¬ InF G k) ∧ Own wr base 22 1 Ba ca M (Sl.vs H) ∧ Keeps (base ≤ ·) w5 wr) (fun _ i _ => M - (intOf i).toNat)
          case atStart => exact ⟨0, H, none, 0, Nat.zero_le _, rfl, rfl, hMk, ⟨fun u hu h => by omega⟩, ⟨fun u _ => rfl⟩, Own.none _ _ _ _, (fun k hk => by obtain ⟨a, ha, _⟩ := hk; cases ha), hO, Keeps.refl _ _⟩
          case round =>
            clear hMk hO
            obtain ⟨t, G, Bm, cm, ht, rfl, rfl, hMk, hd1, hd2, hBm, hBmF, hO, hk⟩ := hrel
            have hGl : G.length = M := hMk.len.trans hHl
            by_cases hlt : t < M
            · have htH : t < H.length := by omega
              have htG : t < G.length := by omega
              obtain ⟨s, hs⟩ : ∃ s, Kept (H[t] = s) := ⟨_, ⟨rfl⟩⟩
              have hsn : s.n ≤ 100 := by rw [← hs.out]; exact hHn _ (List.getElem_mem htH)
              have hcell0 : (Sl.vs H)[t]? = some (.slice s.A s.n s.c) := by rw [Sl.vs_at H t htH, hs.out]
              have hsx : Kept (s.xs = List.replicate s.n (mk10 t)) := ⟨by rw [← hs.out]; exact hdone'.out t htH⟩
              have hself : Kept (G.set t ⟨s.A, s.c, s.n, List.replicate s.n (mk10 t)⟩ = G) := ⟨by
                have h1 := hd2.out t (Nat.le_refl _)
                rw [List.getElem?_eq_getElem htG, List.getElem?_eq_getElem htH, hs.out] at h1
                have h2 : G[t] = s := by simpa using h1
                rw [← hsx.out]
                have h3 : (⟨s.A, s.c, s.n, s.xs⟩ : Sl) = G[t] := h2.symm
                rw [h3]
                exact List.set_getElem_self htG⟩
              obtain ⟨gq, oq, hOe, hOc⟩ := hO.cells.at_ (by
                intro h
                rw [h] at hcell0
                cases hcell0)
              subst hOe
              have c0 := hOc _ _ hcell0
              have hap6 : ∀ k, InS s k → b2 > k := fun k h => (hMk.low t htH k (by rw [hs.out]; exact h)).2
              obtain ⟨At, ct, nt, xt⟩ := s
              simp only at hsn hcell0 c0 hself
              clear hOc
              -- <<done
              go_wp2_with fail
              go_loopw [23, 24] (fun xv jv w' => ∃ (j n1 : Nat) (A1 : Option Addr) (c1 : Nat), j ≤ 12 ∧ jv = .int .i64 j ∧ xv = .slice A1 n1 c1 ∧ Kept (n1 = nt + j) ∧ Marks w' base b2 9 H (G.set t ⟨A1, c1, n1, List.replicate n1 (mk10 t)⟩) ∧
                  Own w' b2 22 1 Bm cm t (Sl.vs (G.take t)) ∧ (∀ k, InA Bm k → ¬ InF (G.set t ⟨A1, c1, n1, List.replicate n1 (mk10 t)⟩) k) ∧ Own w' base 22 1 (some ⟨gq, oq, none⟩) ca M (Sl.vs H) ∧ Keeps (base ≤ ·) w5 w') (fun _ jv _ => 12 - (intOf jv).toNat)
              case atStart => exact ⟨0, nt, At, ct, by omega, rfl, rfl, ⟨rfl⟩, by rw [hself.out]; exact hMk, hBm, by rw [hself.out]; exact hBmF, hO, hk⟩
              case round =>
                clear hMk hBm hBmF hO hk c0
                obtain ⟨j, n1, A1, c1, hj, rfl, rfl, hn1, hMk, hBm, hBmF, hO, hk⟩ := hrel
                have hset : Kept (∀ s, t < (G.set t s).length) := ⟨fun s => by rw [List.length_set]; exact htG⟩
                have hwsz := hk.size
                have hn1c : n1 ≤ 112 := by have := hn1.out; omega
                by_cases hlj : j < 12
                · have Kt : Kept (t ≤ 9223372036854775807) := ⟨by omega⟩
                  have hn1b : (n1 + 1) * 16 ≤ 140737488355328 := by omega
                  have hbw : base ≤ wr.heap.size := by omega
                  go_wp2_with fail
                  refine (mark10_any t _ Kt.out).mono ?_
                  rintro e w6 ⟨rfl, hs6⟩
                  have hMk6 := hMk.same hs6 (by omega)
                  have hBm6 := hBm.same hs6
                  have hO6 := hO.same hs6
                  have hk6 := hk.then hs6 (fun _ _ f => f.elim)
                  have hbw6 : base ≤ w6.heap.size := by have := hs6.size; omega
                  have hb26 : b2 ≤ w6.heap.size := by have := hs6.size; omega
                  have hX := hMk6.fam.own t (hset.out _)
                  rw [List.getElem_set_self] at hX
                  have hX6 : Own w6 base 9 1 A1 c1 n1 (List.replicate n1 (mk10 t)) := hX
                  clear hMk hBm hO hk hX hs6
                  go_wp2_with (at_builtin; refine append_one2 base rfl _ _ 22 9 (.string ByteArray.empty) 1 16 rfl (by kernel_rfl) infoString rfl (by decide) (by decide) A1 c1 n1 _ [mk10 t] rfl rfl rfl (by simp [mk10, Value.oneCell']) hX6 hbw6 hn1b ?_; intro A2 c2 w7 hX7 hk7 hd7)
                  have hMk7 := hMk6.grow hb26 t (hset.out _) A2 c2 (n1 + 1) [mk10 t] (by rw [List.getElem_set_self]; exact hX7) (by rw [List.getElem_set_self]; exact hk7) (by rw [List.getElem_set_self]; exact hd7)
                  rw [List.getElem_set_self, List.set_set, ← List.replicate_succ'] at hMk7
                  have hinS : ∀ k, InA A1 k → InF (G.set t ⟨A1, c1, n1, List.replicate n1 (mk10 t)⟩) k := fun k h => ⟨t, hset.out _, by rw [List.getElem_set_self]; exact h⟩
                  have hBm7 := hBm6.keep hk7 (fun b hb hb' => hBmF b hb (hinS b hb'))
                  have hO7 := hO6.keep hk7 (fun b hb hb' => by
                    rcases hMk6.near t (hset.out _) htH b (by rw [List.getElem_set_self]; exact hb') with h | h
                    · exact hap5 b hb ⟨t, htH, h⟩
                    · have := hBab b hb; omega)
                  have hk77 := hk6.then hk7 (fun i hi hb => (hX6.inA hb).1)
                  have hBmF7 : ∀ k, InA Bm k → ¬ InF (G.set t ⟨A2, c2, n1 + 1, List.replicate (n1 + 1) (mk10 t)⟩) k := fun k hb h => by
                    have h3 : InF (G.set t ⟨A1, c1, n1, List.replicate n1 (mk10 t)⟩) k ∨ InA A2 k := by
                      obtain ⟨u, hu, hk'⟩ := h
                      rw [List.getElem_set] at hk'
                      split at hk'
                      · exact .inr hk'
                      · rename_i e
                        refine .inl ⟨u, by simpa using hu, ?_⟩
                        rw [List.getElem_set_ne e]
                        exact hk'
                    rcases h3 with h3 | h3
                    · exact hBmF k hb h3
                    · rcases new_block hd7 k h3 with h4 | h4
                      · exact hBmF k hb (hinS k h4)
                      · have := (hBm6.inA hb).2; omega
                  go_roundw
                  case rel => exact ⟨j + 1, n1 + 1, A2, c2, by omega, by go_num, rfl, ⟨by rw [hn1.out]; omega⟩, hMk7, hBm7, hBmF7, hO7, hk77⟩
                  case measure => simp [intOf]; omega
                · obtain rfl : j = 12 := by omega
                  have hBmW := hBm
                  have htb : (t + 1) * 24 ≤ 140737488355328 := by omega
                  have hbw2 : b2 ≤ wr.heap.size := by omega
                  go_wp2_with (at_builtin; refine append_one2 b2 rfl _ _ 53 22 (.slice none 0 0) 1 24 rfl (by kernel_rfl) infoStrs rfl (by decide) (by decide) Bm cm t _ [.slice A1 n1 c1] rfl rfl rfl (by simp [Value.oneCell']) hBmW hbw2 htb ?_; intro Bn cn w7 hBn7 hk7 hd7)
                  have hMk7 := hMk.far hk7 (fun k h => hBmF k h) (fun k h ⟨u, hu, h2⟩ => by have := (hMk.low u hu k h2).2; have := (hBm.inA h).1; omega)
                  have hO7 := hO.keep hk7 (fun b hb hb' => by have := hBab b hb; have := (hBm.inA hb').1; omega)
                  have hk77 := hk.then hk7 (fun i hi hb => by have := (hBm.inA hb).1; have h : base ≤ i := (by omega); exact h)
                  go_roundw
                  case rel =>
                    refine ⟨t + 1, G.set t ⟨A1, c1, n1, List.replicate n1 (mk10 t)⟩, Bn, cn, by omega, by go_num, rfl, hMk7, ⟨?_⟩, ⟨?_⟩, ?_, ?_, hO7, hk77⟩
                    · intro u hu1 hu2
                      rw [List.getElem_set]
                      split
                      · rename_i e; subst e
                        refine ⟨fun h => ?_, rfl⟩
                        rw [hs.out]; exact hn1.out
                      · exact hd1.out u (by simpa using hu1) (by omega)
                    · intro u hu
                      rw [List.getElem?_set_ne (by omega)]
                      exact hd2.out u (by omega)
                    · rw [take_set_succ G t _ htG, Sl.vs_append]; exact hBn7
                    · intro k hb h
                      rcases new_block hd7 k hb with h1 | h1
                      · exact hBmF k h1 h
                      · have := (hMk.fam.range h).2; omega
                  case measure => simp [intOf]; omega
              -- done>>
            · obtain rfl : M = t := by omega
              rw [show G.take M = G by rw [← hGl, List.take_length]] at hBm
              have hF6 := hF5.keep hk (show ¬ base ≤ bm + 1 by omega) (show ¬ base ≤ bm by omega)
              have hG6 := hG5.keep hk (show ¬ base ≤ bf1 by omega) (show ¬ base ≤ bm1 by omega)
              have hs6 := hs5.then hk (fun i hi h => by have h' : base ≤ i := h; omega)
              have hold : Kept (∀ u, (hu : u < H.length) → Cells wr H[u].A (List.replicate H[u].n (mk10 u))) := ⟨fun u hu => by have := hMk.old u hu; rw [hdone'.out u hu] at this; exact this⟩
              have hnew : Kept (∀ u, (hu : u < G.length) → Own wr base 9 1 G[u].A G[u].c G[u].n (List.replicate G[u].n (mk10 u))) := ⟨fun u hu => by have := hMk.fam.own u hu; unfold Sl.Is at this; rw [(hd1.out u hu (by omega)).2] at this; exact this⟩
              have hnn : Kept (∀ u, (hu : u < G.length) → ∀ h : u < H.length, G[u].n = H[u].n + 12) := ⟨fun u hu h => (hd1.out u hu (by omega)).1 h⟩
              have hBmc := hBm.cells
              have hOc := hO.cells
              clear hMk hd1 hd2 hBm hBmF hO hk hF5 hG5 hs5 hlt ht
              go_wp2_with fail
              obtain ⟨w6, rfl⟩ : ∃ z : World, z = wr := ⟨_, rfl⟩
              go_loopw [25] (fun i wr => ∃ t : Nat, t ≤ M ∧ i = .int .i64 t ∧ Same w6 wr) (fun i _ => M - (intOf i).toNat)
              case atStart => exact ⟨0, Nat.zero_le _, rfl, Keeps.refl _ _⟩
              case round =>
                obtain ⟨t, ht, rfl, hs⟩ := hrel
                by_cases hlt : t < M
                · have htH : t < H.length := by omega
                  have htG : t < G.length := by omega
                  have hO1 := hold.out t htH
                  have hN1 := hnew.out t htG
                  have hn1 := hnn.out t htG htH
                  have hsn : H[t].n ≤ 100 := hHn _ (List.getElem_mem htH)
                  have hcH : (Sl.vs H)[t]? = some (.slice H[t].A H[t].n H[t].c) := Sl.vs_at H t htH
                  have hcG : (Sl.vs G)[t]? = some (.slice G[t].A G[t].n G[t].c) := Sl.vs_at G t htG
                  generalize H[t] = s at *
                  generalize G[t] = g at *
                  obtain ⟨sA, sc, sn, sx⟩ := s
                  obtain ⟨gA, gc, gn, gx⟩ := g
                  simp only at hO1 hN1 hn1 hsn hcH hcG
                  obtain ⟨ba, oa, hae, hac⟩ := hOc.at_ (by intro h; rw [h] at hcH; cases hcH)
                  obtain ⟨bmm, om, hme, hmc⟩ := hBmc.at_ (by intro h; rw [h] at hcG; cases hcG)
                  subst hae hme
                  have a0 := hac _ _ hcH
                  have m0 := hmc _ _ hcG
                  obtain ⟨gg, rfl, _, _, _⟩ := hN1.form (by omega)
                  obtain ⟨_, _, hge, hgc⟩ := hN1.cells.at_ (by intro h; have := congrArg List.length h; simp at this; omega)
                  cases hge
                  have hn1k := Kept.mk hn1
                  have hgnb : gn ≤ 112 := by omega
                  clear hn1 hac hmc
                  have Hgc : Kept (∀ j, j < gn → w6.cell? ⟨gg, j, none⟩ = some (.string (markOf t))) := ⟨fun j hj => by have := hgc j (mk10 t) (by rw [List.getElem?_replicate, if_pos hj]); rw [Nat.zero_add] at this; exact this⟩
                  have Kt : Kept (t ≤ 9223372036854775807) := ⟨by omega⟩
                  have m0r := hs.cell' m0 (fun f => f)
                  go_wp2_with fail
                  go_loopw [26] (fun jv w' => ∃ j : Nat, j ≤ gn ∧ jv = .int .i64 j ∧ Same w6 w') (fun jv _ => gn - (intOf jv).toNat)
                  case atStart => exact ⟨0, Nat.zero_le _, rfl, hs⟩
                  case round =>
                    clear hs m0r
                    obtain ⟨j, hj, rfl, hs⟩ := hrel
                    have p0 := hs.cell' m0 (fun f => f)
                    have q0 := hs.cell' a0 (fun f => f)
                    -- <<done
                    by_cases hlj : j < gn
                    · have p1 := hs.cell' (Hgc.out j hlj) (fun f => f)
                      by_cases hlh : j < sn
                      · obtain ⟨hb1, ho1, hhe, hhc⟩ := hO1.at_ (by intro h; have := congrArg List.length h; simp at this; omega)
                        subst hhe
                        have q1 : wr.cell? ⟨hb1, ho1 + j, none⟩ = some (.string (markOf t)) := hs.cell' (hhc j (mk10 t) (by rw [List.getElem?_replicate, if_pos hlh])) (fun f => f)
                        have tl : decide (j < sn) = true := decide_eq_true hlh
                        clear hhc
                        go_wp2_with fail
                        go_region_held3 (fun w' => w'.cell? ⟨bmm, om + t, none⟩ = some (.slice (some ⟨gg, 0, none⟩) gn gc) ∧ w'.cell? ⟨gg, j, none⟩ = some (.string (markOf t)) ∧ w'.cell? ⟨ba, oa + t, none⟩ = some (.slice (some ⟨hb1, ho1, none⟩) sn sc) ∧ w'.cell? ⟨hb1, ho1 + j, none⟩ = some (.string (markOf t)))
                          (first
                            | exact ⟨p0, p1, q0, q1⟩
                            | exact ⟨hs8.cell' p0 (fun f => f), hs8.cell' p1 (fun f => f), hs8.cell' q0 (fun f => f), hs8.cell' q1 (fun f => f)⟩
                            | exact ⟨hs9.cell' (hs8.cell' p0 (fun f => f)) (fun f => f), hs9.cell' (hs8.cell' p1 (fun f => f)) (fun f => f), hs9.cell' (hs8.cell' q0 (fun f => f)) (fun f => f), hs9.cell' (hs8.cell' q1 (fun f => f)) (fun f => f)⟩
                            | fail)
                          (first
                            | (go_at_call 32; have hs8' := hs8; refine (mark10_any t _ Kt.out).mono ?_; rintro e w9 ⟨rfl, hs9⟩)
                            | (go_at_call 32; refine (mark10_any t _ Kt.out).mono ?_; rintro e w8 ⟨rfl, hs8⟩)
                            | fail)
                        go_wp2_with fail
                        go_roundw
                        case rel => exact ⟨j + 1, by omega, by go_num, ((hs.drew.trans hs8).trans hs9)⟩
                        case measure => simp [intOf]; omega
                      · have tl : decide (j < sn) = false := decide_eq_false hlh
                        have hj1 : (0 : Int) ≤ (j : Int) := by omega
                        have hj2 : (j : Int) < (gn : Int) := by omega
                        have ht1 : (t : Int) < (M : Int) := by omega
                        clear hlh
                        go_wp2_with fail
                        refine wp_region_held_drew (S := fun w' => w'.cell? ⟨bmm, om + t, none⟩ = some (.slice (some ⟨gg, 0, none⟩) gn gc) ∧ w'.cell? ⟨gg, j, none⟩ = some (.string (markOf t)) ∧ w'.cell? ⟨ba, oa + t, none⟩ = some (.slice sA sn sc)) (by kernel_rfl) ⟨p0, p1, q0⟩ (fun hHeld => ?_)
                        refine wpAnyH_take (i := 0) (oi := ⟨some 181, _, _, _, _, _⟩) (v := ?v0) rfl (by kernel_rfl) (by kernel_rfl) (by kernel_rfl) (fun _ _ _ h => h) (Or.inl ⟨by rfl, ?hy0⟩) (by assumption) ?rest0
                        case hy0 => (intro w hSw; (try dsimp only at hSw); go_simp; try with_reducible rfl)
                        simp only [Act.put, List.setIfInBounds_toArray, List.set_cons_zero, List.set_cons_succ]
                        refine wpAnyH_take (i := 1) (oi := ⟨some 182, _, _, _, _, _⟩) (v := ?v1) rfl (by kernel_rfl) (by kernel_rfl) (by kernel_rfl) (fun _ _ _ h => h) (Or.inl ⟨by rfl, ?hy1⟩) (by assumption) ?rest1
                        case hy1 => (intro w hSw; (try dsimp only at hSw); go_simp; try with_reducible rfl)
                        simp only [Act.put, List.setIfInBounds_toArray, List.set_cons_zero, List.set_cons_succ]
                        refine wpAnyH_take (i := 2) (oi := ⟨some 183, _, _, _, _, _⟩) (v := ?v2) rfl (by kernel_rfl) (by kernel_rfl) (by kernel_rfl) (fun _ _ _ h => h) (Or.inl ⟨by rfl, ?hy2⟩) (by assumption) ?rest2
                        case hy2 => (intro w hSw; (try dsimp only at hSw); go_simp; try with_reducible rfl)
                        simp only [Act.put, List.setIfInBounds_toArray, List.set_cons_zero, List.set_cons_succ]
                        refine wpAnyH_take (i := 3) (oi := ⟨some 184, _, _, _, _, _⟩) (v := ?v3) rfl (by kernel_rfl) (by kernel_rfl) (by kernel_rfl) (fun _ _ _ h => h) (Or.inl ⟨by rfl, ?hy3⟩) (by assumption) ?rest3
                        case hy3 => (intro w hSw; (try dsimp only at hSw); go_simp; try with_reducible rfl)
                        simp only [Act.put, List.setIfInBounds_toArray, List.set_cons_zero, List.set_cons_succ]
                        refine wpAnyH_take (i := 4) (oi := ⟨some 185, _, _, _, _, _⟩) (v := ?v4) rfl (by kernel_rfl) (by kernel_rfl) (by kernel_rfl) (fun _ _ _ h => h) (Or.inl ⟨by rfl, ?hy4⟩) (by assumption) ?rest4
                        case hy4 => (intro w hSw; (try dsimp only at hSw); go_simp; try with_reducible rfl)
                        simp only [Act.put, List.setIfInBounds_toArray, List.set_cons_zero, List.set_cons_succ]
                        refine wpAnyH_take (i := 5) (oi := ⟨some 186, _, _, _, _, _⟩) (v := ?v5) rfl (by kernel_rfl) (by kernel_rfl) (by kernel_rfl) (fun _ _ _ h => h) (Or.inl ⟨by rfl, ?hy5⟩) (by assumption) ?rest5
                        case hy5 => (intro w hSw; (try dsimp only at hSw); go_simp; try with_reducible rfl)
                        simp only [Act.put, List.setIfInBounds_toArray, List.set_cons_zero, List.set_cons_succ]
                        refine wpAnyH_take (i := 6) (oi := ⟨some 187, _, _, _, _, _⟩) (v := ?v6) rfl (by kernel_rfl) (by kernel_rfl) (by kernel_rfl) (fun _ _ _ h => h) (Or.inl ⟨by rfl, ?hy6⟩) (by assumption) ?rest6
                        case hy6 => (intro w hSw; (try dsimp only at hSw); go_simp; try with_reducible rfl)
                        simp only [Act.put, List.setIfInBounds_toArray, List.set_cons_zero, List.set_cons_succ]
                        refine wpAnyH_take (i := 7) (oi := ⟨some 188, _, _, _, _, _⟩) (v := ?v7) rfl (by kernel_rfl) (by kernel_rfl) (by kernel_rfl) (fun _ _ _ h => h) (Or.inl ⟨by rfl, ?hy7⟩) (by assumption) ?rest7
                        case hy7 => (intro w hSw; (try dsimp only at hSw); go_simp; try with_reducible rfl)
                        simp only [Act.put, List.setIfInBounds_toArray, List.set_cons_zero, List.set_cons_succ]
                        refine wpAnyH_ready (rs := [8]) (by kernel_rfl) (by simp) ?_
                        refine AllReadyH.cons rfl (fun K hK => ?_) AllReadyH.nil
                        go_simp
                        go_at_call 32
                        refine (mark10_any t _ Kt.out).mono ?_
                        rintro e w8 ⟨rfl, hs8⟩
                        refine hK.out _ _ ⟨hs8.cell' p0 (fun f => f), hs8.cell' p1 (fun f => f), hs8.cell' q0 (fun f => f)⟩ (fun hHeld => ?_)
                        clear hK K
                        try simp only [Act.put, List.setIfInBounds_toArray, List.set_cons_zero, List.set_cons_succ]
                        refine wpAnyH_take (i := 9) (oi := ⟨some 190, _, _, _, _, _⟩) (v := ?v9) rfl (by kernel_rfl) (by kernel_rfl) (by kernel_rfl) (fun _ _ _ h => h) (Or.inl ⟨by rfl, ?hy9⟩) (by assumption) ?rest9
                        case hy9 => (intro w hSw; (try dsimp only at hSw); go_simp; try with_reducible rfl)
                        simp only [Act.put, List.setIfInBounds_toArray, List.set_cons_zero, List.set_cons_succ]
                        refine wpAnyH_take (i := 10) (oi := ⟨some 191, _, _, _, _, _⟩) (v := ?v10) rfl (by kernel_rfl) (by kernel_rfl) (by kernel_rfl) (fun _ _ _ h => h) (Or.inl ⟨by rfl, ?hy10⟩) (by assumption) ?rest10
                        case hy10 => (intro w hSw; (try dsimp only at hSw); go_simp; try with_reducible rfl)
                        simp only [Act.put, List.setIfInBounds_toArray, List.set_cons_zero, List.set_cons_succ]
                        refine wpAnyH_take (i := 11) (oi := ⟨some 192, _, _, _, _, _⟩) (v := ?v11) rfl (by kernel_rfl) (by kernel_rfl) (by kernel_rfl) (fun _ _ _ h => h) (Or.inl ⟨by rfl, ?hy11⟩) (by assumption) ?rest11
                        case hy11 => (intro w hSw; (try dsimp only at hSw); go_simp; try with_reducible rfl)
                        simp only [Act.put, List.setIfInBounds_toArray, List.set_cons_zero, List.set_cons_succ]
                        refine wpAnyH_take (i := 12) (oi := ⟨some 193, _, _, _, _, _⟩) (v := ?v12) rfl (by kernel_rfl) (by kernel_rfl) (by kernel_rfl) (fun _ _ _ h => h) (Or.inl ⟨by rfl, ?hy12⟩) (by assumption) ?rest12
                        case hy12 => (intro w hSw; (try dsimp only at hSw); go_simp; try with_reducible rfl)
                        simp only [Act.put, List.setIfInBounds_toArray, List.set_cons_zero, List.set_cons_succ]
                        refine wpAnyH_take (i := 13) (oi := ⟨some 194, _, _, _, _, _⟩) (v := ?v13) rfl (by kernel_rfl) (by kernel_rfl) (by kernel_rfl) (fun _ _ _ h => h) (Or.inl ⟨by rfl, ?hy13⟩) (by assumption) ?rest13
                        case hy13 => (intro w hSw; (try dsimp only at hSw); go_simp; try with_reducible rfl)
                        simp only [Act.put, List.setIfInBounds_toArray, List.set_cons_zero, List.set_cons_succ]
                        refine wpAnyH_take (i := 14) (oi := ⟨some 195, _, _, _, _, _⟩) (v := ?v14) rfl (by kernel_rfl) (by kernel_rfl) (by kernel_rfl) (fun _ _ _ h => h) (Or.inl ⟨by rfl, ?hy14⟩) (by assumption) ?rest14
                        case hy14 => (intro w hSw; (try dsimp only at hSw); go_simp; try with_reducible rfl)
                        simp only [Act.put, List.setIfInBounds_toArray, List.set_cons_zero, List.set_cons_succ]
                        refine wpAnyH_take (i := 15) (oi := ⟨some 196, _, _, _, _, _⟩) (v := ?v15) rfl (by kernel_rfl) (by kernel_rfl) (by kernel_rfl) (fun _ _ _ h => h) (Or.inl ⟨by rfl, ?hy15⟩) (by assumption) ?rest15
                        case hy15 => (intro w hSw; (try dsimp only at hSw); go_simp; try with_reducible rfl)
                        simp only [Act.put, List.setIfInBounds_toArray, List.set_cons_zero, List.set_cons_succ]
                        refine wpAnyH_take (i := 16) (oi := ⟨some 197, _, _, _, _, _⟩) (v := ?v16) rfl (by kernel_rfl) (by kernel_rfl) (by kernel_rfl) (fun _ _ _ h => h) (Or.inl ⟨by rfl, ?hy16⟩) (by assumption) ?rest16
                        case hy16 => (intro w hSw; (try dsimp only at hSw); go_simp; try with_reducible rfl)
                        simp only [Act.put, List.setIfInBounds_toArray, List.set_cons_zero, List.set_cons_succ]
                        refine wpAnyH_take (i := 17) (oi := ⟨some 198, _, _, _, _, _⟩) (v := ?v17) rfl (by kernel_rfl) (by kernel_rfl) (by kernel_rfl) (fun _ _ _ h => h) (Or.inl ⟨by rfl, ?hy17⟩) (by assumption) ?rest17
                        case hy17 => (intro w hSw; (try dsimp only at hSw); go_simp; try with_reducible rfl)
                        simp only [Act.put, List.setIfInBounds_toArray, List.set_cons_zero, List.set_cons_succ]
                        refine wpAnyH_take (i := 18) (oi := ⟨some 199, _, _, _, _, _⟩) (v := ?v18) rfl (by kernel_rfl) (by kernel_rfl) (by kernel_rfl) (fun _ _ _ h => h) (Or.inl ⟨by rfl, ?hy18⟩) (by assumption) ?rest18
                        case hy18 => (intro w hSw; (try dsimp only at hSw); go_simp; try with_reducible rfl)
                        simp only [Act.put, List.setIfInBounds_toArray, List.set_cons_zero, List.set_cons_succ]
                        refine wpAnyH_take (i := 19) (oi := ⟨some 200, _, _, _, _, _⟩) (v := undef) rfl (by kernel_rfl) (by kernel_rfl) (by kernel_rfl) (fun _ _ _ h => h) (Or.inr ⟨by rfl, rfl⟩) (by assumption) ?_
                        simp only [Act.put, List.setIfInBounds_toArray, List.set_cons_zero, List.set_cons_succ]
                        refine wpAnyH_take (i := 20) (oi := ⟨some 201, _, _, _, _, _⟩) (v := undef) rfl (by kernel_rfl) (by kernel_rfl) (by kernel_rfl) (fun _ _ _ h => h) (Or.inr ⟨by rfl, rfl⟩) (by assumption) ?_
                        simp only [Act.put, List.setIfInBounds_toArray, List.set_cons_zero, List.set_cons_succ]
                        refine wpAnyH_take (i := 21) (oi := ⟨some 202, _, _, _, _, _⟩) (v := undef) rfl (by kernel_rfl) (by kernel_rfl) (by kernel_rfl) (fun _ _ _ h => h) (Or.inr ⟨by rfl, rfl⟩) (by assumption) ?_
                        simp only [Act.put, List.setIfInBounds_toArray, List.set_cons_zero, List.set_cons_succ]
                        refine wpAnyH_take (i := 22) (oi := ⟨some 203, _, _, _, _, _⟩) (v := undef) rfl (by kernel_rfl) (by kernel_rfl) (by kernel_rfl) (fun _ _ _ h => h) (Or.inr ⟨by rfl, rfl⟩) (by assumption) ?_
                        simp only [Act.put, List.setIfInBounds_toArray, List.set_cons_zero, List.set_cons_succ]
                        refine wpAnyH_take (i := 23) (oi := ⟨some 204, _, _, _, _, _⟩) (v := undef) rfl (by kernel_rfl) (by kernel_rfl) (by kernel_rfl) (fun _ _ _ h => h) (Or.inr ⟨by rfl, rfl⟩) (by assumption) ?_
                        simp only [Act.put, List.setIfInBounds_toArray, List.set_cons_zero, List.set_cons_succ]
                        refine wpAnyH_take (i := 24) (oi := ⟨some 205, _, _, _, _, _⟩) (v := undef) rfl (by kernel_rfl) (by kernel_rfl) (by kernel_rfl) (fun _ _ _ h => h) (Or.inr ⟨by rfl, rfl⟩) (by assumption) ?_
                        simp only [Act.put, List.setIfInBounds_toArray, List.set_cons_zero, List.set_cons_succ]
                        refine wpAnyH_take (i := 25) (oi := ⟨some 206, _, _, _, _, _⟩) (v := undef) rfl (by kernel_rfl) (by kernel_rfl) (by kernel_rfl) (fun _ _ _ h => h) (Or.inr ⟨by rfl, rfl⟩) (by assumption) ?_
                        simp only [Act.put, List.setIfInBounds_toArray, List.set_cons_zero, List.set_cons_succ]
                        refine wpAnyH_take (i := 26) (oi := ⟨some 207, _, _, _, _, _⟩) (v := undef) rfl (by kernel_rfl) (by kernel_rfl) (by kernel_rfl) (fun _ _ _ h => h) (Or.inr ⟨by rfl, rfl⟩) (by assumption) ?_
                        simp only [Act.put, List.setIfInBounds_toArray, List.set_cons_zero, List.set_cons_succ]
                        refine wpAnyH_take (i := 27) (oi := ⟨some 208, _, _, _, _, _⟩) (v := undef) rfl (by kernel_rfl) (by kernel_rfl) (by kernel_rfl) (fun _ _ _ h => h) (Or.inr ⟨by rfl, rfl⟩) (by assumption) ?_
                        simp only [Act.put, List.setIfInBounds_toArray, List.set_cons_zero, List.set_cons_succ]
                        refine wpAnyH_take (i := 28) (oi := ⟨some 209, _, _, _, _, _⟩) (v := undef) rfl (by kernel_rfl) (by kernel_rfl) (by kernel_rfl) (fun _ _ _ h => h) (Or.inr ⟨by rfl, rfl⟩) (by assumption) ?_
                        simp only [Act.put, List.setIfInBounds_toArray, List.set_cons_zero, List.set_cons_succ]
                        refine wpAnyH_take (i := 29) (oi := ⟨some 210, _, _, _, _, _⟩) (v := ?v29) rfl (by kernel_rfl) (by kernel_rfl) (by kernel_rfl) (fun _ _ _ h => h) (Or.inl ⟨by rfl, ?hy29⟩) (by assumption) ?rest29
                        case hy29 => (intro w hSw; (try dsimp only at hSw); go_simp; try with_reducible rfl)
                        simp only [Act.put, List.setIfInBounds_toArray, List.set_cons_zero, List.set_cons_succ]
                        refine wpAnyH_take (i := 30) (oi := ⟨some 211, _, _, _, _, _⟩) (v := ?v30) rfl (by kernel_rfl) (by kernel_rfl) (by kernel_rfl) (fun _ _ _ h => h) (Or.inl ⟨by rfl, ?hy30⟩) (by assumption) ?rest30
                        case hy30 => (intro w hSw; (try dsimp only at hSw); go_simp; try with_reducible rfl)
                        simp only [Act.put, List.setIfInBounds_toArray, List.set_cons_zero, List.set_cons_succ]
                        refine wpAnyH_done (by kernel_rfl) ?_ _
                        go_wp2_with fail
                        go_roundw
                        case rel => exact ⟨j + 1, by omega, by go_num, hs.drew.trans hs8⟩
                        case measure => simp [intOf]; omega
                    · obtain rfl : gn = j := by omega
                      go_wp2_with fail
                      go_roundw
                      case rel => exact ⟨t + 1, by omega, by go_num, hs⟩
                      case measure => simp [intOf]; omega
                    -- done>>
                · obtain rfl : M = t := by omega
                  have hF7 := hF6.same hs
                  have hG7 := hG6.same hs
                  have hs7 := hs6.trans hs
                  clear hold hnew hnn hBmc hOc hF6 hG6 hs6 hlt ht
                  obtain ⟨N, hN⟩ : ∃ N, Kept (nodesOf T.length = N) := ⟨_, ⟨rfl⟩⟩
                  have hNb : N ≤ 140 := by rw [← hN.out]; have : nodesOf T.length ≤ 2 * T.length := Nat.sub_le _ _; omega
                  have Km : Kept (0 ≤ (T.length : Int) ∧ (T.length : Int) ≤ 1099511627776) := ⟨by omega⟩
                  go_wp2_with (first
                    | (go_at_call 23; refine (fsize_any _ _ _ _ _ _ hF7).mono ?_; rintro e w' ⟨rfl, rfl⟩)
                    | (go_at_call 24; refine (nodes_any _ _ Km.out.1 Km.out.2).mono ?_; rintro e w1 ⟨rfl, rfl⟩; rw [Int.toNat_natCast, hN.out]))
                  obtain ⟨w7, rfl⟩ : ∃ z : World, z = wr := ⟨_, rfl⟩
                  go_loopw [29] (fun pv wr => ∃ p : Nat, p ≤ N ∧ pv = .int .u64 p ∧ Same w7 wr) (fun pv _ => N - (intOf pv).toNat)
                  case atStart => exact ⟨0, Nat.zero_le _, rfl, Keeps.refl _ _⟩
                  case round =>
                    obtain ⟨p, hp, rfl, hs⟩ := hrel
                    have hFr := hF7.same hs
                    have hGr := hG7.same hs
                    by_cases hlt : p < N
                    · have Kp : Kept (0 ≤ (p : Int)) := ⟨by omega⟩
                      have Kp2 : Kept ((p : Int) < nodesOf T.length) := ⟨by rw [hN.out]; omega⟩
                      obtain ⟨fv, hfv⟩ : ∃ fv, Kept (fdig k1 its T.length (((blockAt (p : Int).toNat).1 : Nat), ((blockAt (p : Int).toNat).2 : Nat)) = fv) := ⟨_, ⟨rfl⟩⟩
                      go_wp2_with fail
                      refine (fnode_any (bm + 1) bm k1 its T.length p wr hFr Kp.out Kp2.out).mono ?_
                      rintro e w8 ⟨rfl, hs8⟩
                      rw [hfv.out]
                      have hG8 := hGr.same hs8
                      go_wp2_with fail
                      refine (fnode_any bf1 bm1 k1 its T.length p w8 hG8 Kp.out Kp2.out).mono ?_
                      rintro e w9 ⟨rfl, hs9⟩
                      rw [hfv.out]
                      have hs79 := hs.trans (hs8.trans hs9)
                      go_wp2_with fail
                      go_roundw
                      case rel => exact ⟨p + 1, by omega, by go_num, hs79⟩
                      case measure => simp [intOf]; omega
                    · obtain rfl : N = p := by omega
                      obtain ⟨dR, hdR⟩ : ∃ d, Kept (hroot k1 T.length (peaks k1 its T.length) = d) := ⟨_, ⟨rfl⟩⟩
                      have hsF := hs7.trans hs
                      go_wp2_with (go_at_call 23; refine (fsize_any _ _ _ _ _ _ hFr).mono ?_; rintro e w' ⟨rfl, rfl⟩)
                      refine (froot_any (bm + 1) bm k1 its T.length T.length wr hFr (Nat.le_refl _)).mono ?_
                      rintro e w8 ⟨rfl, hs8⟩
                      rw [hdR.out]
                      unfold rootV
                      have hB8 := Blk.new w8 34 [.int .u64 (T.length : Int), .string dR]
                      have hk8 := (Keeps.refl (fun _ => False) w8).alloc (.cells #[.int .u64 (T.length : Int), .string dR] 34)
                      have hG8 := (hGr.same hs8).same hk8
                      have hF8 := (hFr.same hs8).same hk8
                      have hs8' := (hsF.trans hs8).trans hk8
                      go_wp2_with (go_at_call 23; refine (fsize_any _ _ _ _ _ _ hG8).mono ?_; rintro e w' ⟨rfl, rfl⟩)
                      refine (froot_any bf1 bm1 k1 its T.length T.length _ hG8 (Nat.le_refl _)).mono ?_
                      rintro e w9 ⟨rfl, hs9⟩
                      rw [hdR.out]
                      unfold rootV
                      have hk9 := (Keeps.refl (fun _ => False) w9).alloc (.cells #[.int .u64 (T.length : Int), .string dR] 34)
                      have hB9 := hk9.blk (hs9.blk hB8 (fun f => f)) (fun f => f)
                      have hF9 := (hF8.same hs9).same hk9
                      have hG9 := (hG8.same hs9).same hk9
                      have hsE := (hs8'.trans hs9).trans hk9
                      have q0 := hB9.cell' (show [Value.int .u64 (T.length : Int), .string dR][0]? = some (.int .u64 (T.length : Int)) from rfl)
                      have q1 := hB9.cell' (show [Value.int .u64 (T.length : Int), .string dR][0 + 1]? = some (.string dR) from rfl)
                      go_wp2_with (first
                        | (go_at_call 20; refine (num10_any _ _).mono ?_; rintro e w' ⟨rfl, rfl⟩)
                        | (go_at_call 23; refine (fsize_any _ _ _ _ _ _ hF9).mono ?_; rintro e w' ⟨rfl, rfl⟩)
                        | (go_at_call 23; refine (fsize_any _ _ _ _ _ _ hG9).mono ?_; rintro e w' ⟨rfl, rfl⟩))
                      go_ret
                      exact ⟨rfl, hsE⟩

theorem walk_ForestFresh (a0 : Int) (a1 : Option Addr) (len1 cap1 : Nat) (l1 : List ByteArray) (W : World) (_w0 : (Lit.int .i64 a0).wf = true) (w1 : StrsIn W a1 len1 cap1 l1) :
    Calls Try.prog 4 #[.int .i64 a0, .slice a1 len1 cap1] W fun e w' => e = .returned (.bool true) ∧ Same W w' := fresh10_any a0 a1 len1 cap1 l1 W w1
end Go.Proofs.Ytkokagbmmlngjaa
