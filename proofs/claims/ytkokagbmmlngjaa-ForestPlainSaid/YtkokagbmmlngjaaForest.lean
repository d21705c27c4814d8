/- The walks of package forest. -/
import Derived.Test.YtkokagbmmlngjaaForP
namespace Go.Proofs.Ytkokagbmmlngjaa
open Go.RowKit
set_option maxRecDepth 100000

theorem infoString : Info Try.prog 9 (.string ByteArray.empty) 1 16 := by
  unfold Info
  kernel_rfl

def fcells (k n : Int) (bm : Nat) : List Value := [.int .i64 k, .int .u64 n, .map (some bm)]
/-- A forest at block bf, its map at block bm: strength k, the first n of the items. -/
structure IsForest (w : World) (bf bm : Nat) (k : Int) (its : Nat → ByteArray) (n : Nat) : Prop where
  cells : Blk w bf 110 (fcells k n bm)
  map : MapIs w bm (entries k its n)
  ne : bf ≠ bm
  bound : n ≤ 65536

theorem IsForest.keep {S : Nat → Prop} {w w' : World} {bf bm : Nat} {k : Int} {its : Nat → ByteArray} {n : Nat} (h : IsForest w bf bm k its n) (hk : Keeps S w w') (h1 : ¬ S bf) (h2 : ¬ S bm) : IsForest w' bf bm k its n :=
  ⟨hk.blk h.cells h1, h.map.keep hk h2, h.ne, h.bound⟩
theorem IsForest.same {w w' : World} {bf bm : Nat} {k : Int} {its : Nat → ByteArray} {n : Nat} (h : IsForest w bf bm k its n) (hk : Same w w') : IsForest w' bf bm k its n :=
  h.keep hk (fun f => f) (fun f => f)

set_option maxHeartbeats 400000 in
theorem fnew_bad (k : Int) (w : World) (hk : ¬ (1 ≤ k ∧ k ≤ 32)) :
    Calls Try.prog 19 #[.int .i64 k] w fun e w' => e = .returned (.tuple #[.pointer none, .int .i64 70]) ∧ w = w' := by
  have hc := check_any k w
  rw [if_neg hk] at hc
  have Hc := Kept.mk hc
  clear hc
  go_enter Try.func19, Try.ntmps19
  go_wp2_with (go_at_call 78; refine (Hc.out).mono ?_; rintro e w1 ⟨rfl, rfl⟩)
  go_ret2
  exact ⟨rfl, rfl⟩

set_option maxHeartbeats 400000 in
theorem fnew_any (k : Int) (its : Nat → ByteArray) (w : World) (h1 : 1 ≤ k) (h2 : k ≤ 32) :
    Calls Try.prog 19 #[.int .i64 k] w fun e w' => e = .returned (.tuple #[.pointer (some ⟨w.heap.size + 1, 0, none⟩), .int .i64 0]) ∧ Same w w' ∧ IsForest w' (w.heap.size + 1) w.heap.size k its 0 := by
  have hc := check_any k w
  rw [if_pos ⟨h1, h2⟩] at hc
  have Hc := Kept.mk hc
  clear hc
  have hmm := @run_makeMap Try.prog
  go_enter Try.func19, Try.ntmps19
  go_wp2_with (go_at_call 78; refine (Hc.out).mono ?_; rintro e w1 ⟨rfl, rfl⟩)
  go_ret2
  refine ⟨rfl, ((Keeps.refl _ _).alloc _).alloc _, ?_, ?_, by omega, by omega⟩
  · have := Blk.new (w.alloc (.map #[] 0)) 110 (fcells k 0 w.heap.size)
    rw [World.size_alloc] at this
    exact this
  · exact (MapIs.new w).keep ((Keeps.refl (fun _ => False) _).alloc _) (fun f => f)

set_option maxHeartbeats 400000 in
theorem append_big (bf bm : Nat) (k : Int) (its : Nat → ByteArray) (n : Nat) (item : ByteArray) (w : World) (hi : 1048576 < item.size) (hi2 : item.size ≤ 9223372036854775807) :
    Calls Try.prog 22 #[.pointer (some ⟨bf, 0, none⟩), .string item] w fun e w' => e = .returned (.tuple #[.slice none 0 0, .int .i64 100]) ∧ w = w' := by
  go_enter Try.func22, Try.ntmps22
  go_wp2
  go_ret2
  exact ⟨rfl, rfl⟩

/-- what Append gives -/
def RetApp (w : World) (bf bm : Nat) (k : Int) (its : Nat → ByteArray) (n : Nat) (e : Ending) (w' : World) : Prop :=
  ∃ A c, e = .returned (.tuple #[.slice A (trail (n + 1) + 1) c, .int .i64 0]) ∧ Own w' w.heap.size 9 1 A c (trail (n + 1) + 1) (strs ((newBs k its n).map (·.2))) ∧
    IsForest w' bf bm k its (n + 1) ∧ Keeps (fun b => b = bf ∨ b = bm) w w'

set_option maxHeartbeats 4000000 in
theorem append_any (bf bm : Nat) (k : Int) (its : Nat → ByteArray) (n : Nat) (item : ByteArray) (w : World) (hi : item.size ≤ 1048576) (hn : n < 65536) (hit : its n = item) (hF : IsForest w bf bm k its n) :
    Calls Try.prog 22 #[.pointer (some ⟨bf, 0, none⟩), .string item] w (RetApp w bf bm k its n) := by
  have hC := hF.cells
  have hM := hF.map
  have hne := hF.ne
  have c0 := hC.cell' (show (fcells k n bm)[0]? = some (.int .i64 k) from rfl)
  have c1 := hC.cell' (show (fcells k n bm)[1]? = some (.int .u64 n) from rfl)
  have f1 := hC.frozen 1
  have hlt := hC.lt
  have hbm := hM.lt
  have hit' : Kept (its n = item) := ⟨hit⟩
  have hls : Kept (item.size ≤ 1152921504606846976) := ⟨by omega⟩
  have t1 : decide ((1048576 : Int) < (item.size : Int)) = false := decide_eq_false (by omega)
  have t2 : decide ((65536 : Int) ≤ (n : Int)) = false := decide_eq_false (by omega)
  have Hn : Kept (n < 65536) := ⟨hn⟩
  clear hit hi hn
  have hw1 : IntKind.u64.wrap ((n : Int) + 1) = (n : Int) + 1 := by rw [IntKind.wrap_u64]; have := Hn.out; omega
  -- the world behind the two stores
  have hC0 : Blk ((w.setCell ⟨bf, 1, none⟩ (.int .u64 ((n : Int) + 1))).alloc (.cells #[.int .i64 0, .int .u64 n] 45)) bf 110 (fcells k ((n : Int) + 1) bm) :=
    (hC.set 1 (.int .u64 ((n : Int) + 1))).alloc _
  have hX0 : Blk ((w.setCell ⟨bf, 1, none⟩ (.int .u64 ((n : Int) + 1))).alloc (.cells #[.int .i64 0, .int .u64 n] 45)) w.heap.size 45 (bcells 0 n) := by
    have := Blk.new (w.setCell ⟨bf, 1, none⟩ (.int .u64 ((n : Int) + 1))) 45 (bcells 0 n)
    rw [World.size_setCell] at this
    exact this
  have hk0 : Keeps (· = bf) w ((w.setCell ⟨bf, 1, none⟩ (.int .u64 ((n : Int) + 1))).alloc (.cells #[.int .i64 0, .int .u64 n] 45)) :=
    ((Keeps.refl (· = bf) w).setCell (p := ⟨bf, 1, none⟩) (.inl rfl) _).alloc _
  have hM0 := hM.keep hk0 (fun e => hne e.symm)
  generalize hw0 : (w.setCell ⟨bf, 1, none⟩ (.int .u64 ((n : Int) + 1))).alloc (.cells #[.int .i64 0, .int .u64 n] 45) = w0 at *
  have Hw0 := Kept.mk hw0
  clear hw0
  go_enter Try.func22, Try.ntmps22
  go_wp2_with (go_at_call 33; rw [Hw0.out]; refine (hleaf_any _ _ _ hls.out).mono ?_; rintro e w1 ⟨rfl, hs1⟩)
  have hC1 := hs1.blk hC0 (fun f => f)
  have hX1 := hs1.blk hX0 (fun f => f)
  have hM1 := hM0.keep hs1 (fun f => f)
  have hk1 : Keeps (fun b => b = bf ∨ b = bm) w w1 := (hk0.mono (fun _ _ h => .inl h)).then hs1 (fun _ _ f => f.elim)
  have hsz1 : w.heap.size < w1.heap.size := hX1.lt
  clear hC0 hX0 hM0 hk0 hs1 hM hC c0 c1 f1
  have hlook : look ((0 : Int), (n : Int)) (entries k its n) = none := by
    rw [look_entries k its _ n (by have := Hn.out; omega), fdig, if_neg]
    rintro ⟨_, _, h⟩
    have h' : (n + 1) * 1 ≤ n := h
    omega
  obtain ⟨w2, hrun, hM2, hk2, hsz2⟩ := update_map (hM1.keep (Keeps.refl (fun _ => False) w1).drew (fun f => f)) ((0 : Int), (n : Int)) (hleaf k item) hlook
  have hrun' : (Instr.mapUpdate 108 (.map (some bm)) (.agg #[.int .i64 0, .int .u64 n]) (.string (hleaf k item))).run Try.prog w1.drew = .ok () w2 := hrun
  clear hrun hlook
  have g2 : w1.cell? ⟨bf, 2, none⟩ = some (.map (some bm)) := hC1.cell' (show (fcells k ((n : Int) + 1) bm)[2]? = some (.map (some bm)) from rfl)
  have x0 : w1.cell? ⟨w.heap.size, 0, none⟩ = some (.int .i64 0) := hX1.cell' (show (bcells 0 n)[0]? = some (.int .i64 0) from rfl)
  have x1 : w1.cell? ⟨w.heap.size, 1, none⟩ = some (.int .u64 n) := hX1.cell' (show (bcells 0 n)[1]? = some (.int .u64 n) from rfl)
  refine wp_region_still_tail 6 (by kernel_rfl) (by kernel_rfl) ?_
  simp only [List.take_succ_cons, List.take_zero, List.drop_succ_cons, List.drop_zero]
  repeat still_step
  try refine wpStill_nil ?_
  change wpList _ _ _ _ _ w1.drew
  clear g2 x0 x1
  have hC2 := hk2.blk hC1.drew (show ¬ bf = bm from hne)
  have hX2 := hk2.blk hX1.drew (show ¬ w.heap.size = bm by omega)
  have hkk2 : Keeps (fun b => b = bf ∨ b = bm) w w2 := hk1.drew.then hk2 (fun _ _ h => .inr h)
  have hsz2' : w.heap.size < w2.heap.size := by rw [hsz2]; exact hsz1
  clear hC1 hX1 hM1 hk1 hk2 hsz2 hsz1
  have hbf2 := hC2.lt
  have e1 := hC2.cell' (show (fcells k ((n : Int) + 1) bm)[1]? = some (.int .u64 ((n : Int) + 1)) from rfl)
  have htr : Kept (0 ≤ (n : Int) + 1 ∧ (n : Int) + 1 < 18446744073709551616) := ⟨by have := Hn.out; omega⟩
  obtain ⟨t, ht⟩ : ∃ t, Kept (trail (n + 1) = t) := ⟨_, ⟨rfl⟩⟩
  have htn : Kept (trail ((n : Int) + 1).toNat = t) := ⟨by rw [show ((n : Int) + 1).toNat = n + 1 by omega]; exact ht.out⟩
  go_wp2_with (go_at_call 80; refine (trail_any _ _ htr.out.1 htr.out.2).mono ?_; rintro e w3 ⟨rfl, rfl⟩; rw [htn.out])
  have htb : t ≤ 17 := by rw [← ht.out]; have := trail_lt (n + 1) (by omega) (by have := Hn.out; omega) 18 (by have := Hn.out; omega); omega
  have HL : Kept (∀ h, h < t → ∃ q, n / 2 ^ h = 2 * q + 1 ∧ n / 2 ^ (h + 1) = q ∧ look ((h : Int), ((2 * q : Nat) : Int)) (entries k its n ++ (newBs k its n).take (h + 1)) = some (tree k its h (2 * q)) ∧
      look (((h + 1 : Nat) : Int), (q : Int)) (entries k its n ++ (newBs k its n).take (h + 1)) = none ∧
      (newBs k its n).take (h + 1 + 1) = (newBs k its n).take (h + 1) ++ [((((h + 1 : Nat) : Int), (q : Int)), tree k its (h + 1) q)] ∧ q < n + 1) :=
    ⟨fun h hh => app_step k its n h (by have := Hn.out; omega) (by rw [ht.out]; exact hh)⟩
  have hd1 : (newBs k its n).take 1 = [(((0 : Int), (n : Int)), hleaf k item)] := by
    rw [newBs_take k its n 0 (Nat.zero_le _), ← hit'.out]
    simp [tree]
  have hM3 := hM2.keep ((Keeps.refl (fun _ => False) w2).alloc (.cells #[.string (hleaf k item)] 9)) (fun f => f)
  have hC3 := hC2.alloc (.cells #[.string (hleaf k item)] 9)
  have hX3 := hX2.alloc (.cells #[.string (hleaf k item)] 9)
  have hk3 := hkk2.alloc (.cells #[.string (hleaf k item)] 9)
  have hO3 := Own.lit w2 (w.heap.size + 1) 9 1 1 [.string (hleaf k item)] (by omega) (by decide) rfl
  rw [← hd1] at hM3
  have hO3' : Own (w2.alloc (.cells #[.string (hleaf k item)] 9)) (w.heap.size + 1) 9 1 (some ⟨w2.heap.size, 0, none⟩) 1 1 (strs (((newBs k its n).take 1).map (·.2))) := by rw [hd1]; exact hO3
  clear hM2 hC2 hX2 hkk2 hO3 hd1
  generalize w2.alloc (.cells #[.string (hleaf k item)] 9) = w4 at *
  go_loopw [7, 8, 51] (fun d o i wr => ∃ (h : Nat) (A : Option Addr) (c : Nat), h ≤ t ∧ i = .int .i64 h ∧ d = .string (tree k its h (n / 2 ^ h)) ∧ o = .slice A (h + 1) c ∧
      Blk wr bf 110 (fcells k ((n : Int) + 1) bm) ∧ Blk wr w.heap.size 45 (bcells h ((n / 2 ^ h : Nat) : Int)) ∧ MapIs wr bm (entries k its n ++ (newBs k its n).take (h + 1)) ∧
      Own wr (w.heap.size + 1) 9 1 A c (h + 1) (strs (((newBs k its n).take (h + 1)).map (·.2))) ∧ Keeps (fun b => b = bf ∨ b = bm) w wr) (fun _ _ i _ => t - (intOf i).toNat)
  case atStart =>
    exact ⟨0, some ⟨w2.heap.size, 0, none⟩, 1, Nat.zero_le _, rfl, by rw [tree, Nat.pow_zero, Nat.div_one, hit'.out], rfl, hC3, by rw [Nat.pow_zero, Nat.div_one]; exact hX3, hM3, hO3', hk3⟩
  case round =>
    clear hM3 hC3 hX3 hk3 hO3' e1 hrun'
    obtain ⟨h, A, c, hht, rfl, rfl, rfl, hC, hX, hM, hO, hk⟩ := hrel
    by_cases hlt : h < t
    · obtain ⟨q, hq1, hq2, hl1, hl2, hnew, hqn⟩ := HL.out h hlt
      obtain ⟨r, hr⟩ : ∃ r : Nat, Kept (2 * q + 1 = r) := ⟨_, ⟨rfl⟩⟩
      obtain ⟨l, hl⟩ : ∃ l : Nat, Kept (2 * q = l) := ⟨_, ⟨rfl⟩⟩
      rw [hq1, hr.out] at hX ⊢
      rw [hl.out] at hl1
      have Hq2 := Kept.mk hq2
      have Hl1 := Kept.mk hl1
      have Hl2 := Kept.mk hl2
      have Hnew := Kept.mk hnew
      have hrq : (r : Int) / 2 = (q : Int) := by have := hr.out; omega
      have hw3 : IntKind.u64.wrap (q : Int) = (q : Int) := by rw [IntKind.wrap_u64]; have := Hn.out; omega
      have hr1 : 1 ≤ r := by have := hr.out; omega
      clear hq1 hq2 hl1 hl2 hnew
      have hsz : w.heap.size < wr.heap.size := hX.lt
      have g0 : wr.cell? ⟨bf, 0, none⟩ = some (.int .i64 k) := hC.cell' rfl
      have g2 : wr.cell? ⟨bf, 2, none⟩ = some (.map (some bm)) := hC.cell' rfl
      have x0 : wr.cell? ⟨w.heap.size, 0, none⟩ = some (.int .i64 h) := hX.cell' rfl
      have x1 : wr.cell? ⟨w.heap.size, 1, none⟩ = some (.int .u64 (r : Int)) := hX.cell' rfl
      have hw2 : IntKind.u64.wrap ((r : Int) - 1) = (l : Int) := by rw [IntKind.wrap_u64]; have := Hn.out; have := hr.out; have := hl.out; omega
      have hlk : ∀ nq, (Instr.lookup 108 (.map (some bm)) (.agg #[.int .i64 h, .int .u64 (l : Int)]) false).run Try.prog (wr.drewN nq) = .ok (.string (tree k its h l)) (wr.drewN nq) := fun nq => by
        have := lookup_map (hM.keep (Keeps.refl (fun _ => False) wr |>.drewN nq) (fun f => f)) ((h : Int), (l : Int)) false
        rw [Hl1.out] at this
        exact this
      go_wp2_with fail
      go_quiet (fail)
      have hC5 : Blk (wr.drewN nq) bf 110 (fcells k ((n : Int) + 1) bm) := hC
      have hX5 : Blk (wr.drewN nq) w.heap.size 45 (bcells h r) := hX
      have hM5 := hM.keep ((Keeps.refl (fun _ => False) wr).drewN nq) (fun f => f)
      have hO5 := hO.same ((Keeps.refl (fun _ => False) wr).drewN nq)
      have hk5 := hk.drewN nq
      have hsz5 : w.heap.size < (wr.drewN nq).heap.size := hsz
      clear g0 g2 x0 x1 hlk hC hX hM hO hk hsz hw2
      generalize wr.drewN nq = w5 at *
      have g0 : w5.cell? ⟨bf, 0, none⟩ = some (.int .i64 k) := hC5.cell' rfl
      have x0 : w5.cell? ⟨w.heap.size, 0, none⟩ = some (.int .i64 h) := hX5.cell' rfl
      have x1 : w5.cell? ⟨w.heap.size, 1, none⟩ = some (.int .u64 (r : Int)) := hX5.cell' rfl
      have y0 := hX5.frozen 0
      have y1 := hX5.frozen 1
      have hX6 : Blk ((w5.setCell ⟨w.heap.size, 0, none⟩ (.int .i64 ((h : Int) + 1))).setCell ⟨w.heap.size, 1, none⟩ (.int .u64 (q : Int))) w.heap.size 45 (bcells ((h : Int) + 1) q) :=
        (hX5.set 0 (.int .i64 ((h : Int) + 1))).set 1 (.int .u64 (q : Int))
      have hk6 : Keeps (· = w.heap.size) w5 ((w5.setCell ⟨w.heap.size, 0, none⟩ (.int .i64 ((h : Int) + 1))).setCell ⟨w.heap.size, 1, none⟩ (.int .u64 (q : Int))) :=
        ((Keeps.refl (· = w.heap.size) w5).setCell (p := ⟨w.heap.size, 0, none⟩) (.inl rfl) _).setCell (p := ⟨w.heap.size, 1, none⟩) (.inl rfl) _
      have hd6 : bf ≠ w.heap.size := by omega
      have z0 := hk6.cell' g0 hd6
      generalize hw6 : (w5.setCell ⟨w.heap.size, 0, none⟩ (.int .i64 ((h : Int) + 1))).setCell ⟨w.heap.size, 1, none⟩ (.int .u64 (q : Int)) = w6 at *
      have Hw6 := Kept.mk hw6
      clear hw6
      have hzl : Kept ((tree k its h l).size ≤ 1152921504606846976) := ⟨by rw [tree_size]; have := clampK_range k; omega⟩
      have hzr : Kept ((tree k its h r).size ≤ 1152921504606846976) := ⟨by rw [tree_size]; have := clampK_range k; omega⟩
      have htr1 : Kept (hnode k (tree k its h l) (tree k its h r) = tree k its (h + 1) q) := ⟨by rw [← hl.out, ← hr.out]; rfl⟩
      go_wp2_with (go_at_call 28; rw [Hw6.out]; refine (hnode_any _ _ _ _ hzl.out hzr.out).mono ?_; rintro e w7 ⟨rfl, hs7⟩; rw [htr1.out])
      have hC7 := hs7.blk (hk6.blk hC5 hd6) (fun f => f)
      have hX7 := hs7.blk hX6 (fun f => f)
      have hM7 := (hM5.keep hk6 (show ¬ bm = w.heap.size by omega)).keep hs7 (fun f => f)
      have hO7 := (hO5.keep hk6 (fun b hb e => by have := (hO5.inA hb).1; omega)).same hs7
      have hk7 : Keeps (fun b => b = bf ∨ b = bm) w w7 := (hk5.then hk6 (fun i hi e => by omega)).then hs7 (fun _ _ f => f.elim)
      have hsz7 : w.heap.size < w7.heap.size := hX7.lt
      clear hC5 hX5 hM5 hO5 hk5 hsz5 g0 x0 x1 y0 y1 hX6 hk6 z0 Hw6 hs7
      obtain ⟨w8, hrun, hM8, hk8, hsz8⟩ := update_map (hM7.keep (Keeps.refl (fun _ => False) w7).drew (fun f => f)) (((h + 1 : Nat) : Int), (q : Int)) (tree k its (h + 1) q) Hl2.out
      have hrun' : (Instr.mapUpdate 108 (.map (some bm)) (.agg #[.int .i64 ((h : Int) + 1), .int .u64 q]) (.string (tree k its (h + 1) q))).run Try.prog w7.drew = .ok () w8 := hrun
      clear hrun
      rw [List.append_assoc, ← Hnew.out] at hM8
      have g2 : w7.cell? ⟨bf, 2, none⟩ = some (.map (some bm)) := hC7.cell' rfl
      have x0 : w7.cell? ⟨w.heap.size, 0, none⟩ = some (.int .i64 ((h : Int) + 1)) := hX7.cell' rfl
      have x1 : w7.cell? ⟨w.heap.size, 1, none⟩ = some (.int .u64 (q : Int)) := hX7.cell' rfl
      refine wp_region_still_tail 6 (by kernel_rfl) (by kernel_rfl) ?_
      simp only [List.take_succ_cons, List.take_zero, List.drop_succ_cons, List.drop_zero]
      repeat still_step
      try refine wpStill_nil ?_
      change wpList _ _ _ _ _ w7.drew
      clear g2 x0 x1
      have hC8 := hk8.blk hC7.drew (show ¬ bf = bm from hne)
      have hX8 := hk8.blk hX7.drew (show ¬ w.heap.size = bm by omega)
      have hO8 := (hO7.same (Keeps.refl (fun _ => False) w7).drew).keep hk8 (fun b hb e => by have := (hO7.inA hb).1; omega)
      have hkk8 : Keeps (fun b => b = bf ∨ b = bm) w w8 := hk7.drew.then hk8 (fun _ _ h => .inr h)
      have hsz8' : w.heap.size + 1 ≤ w8.heap.size := by rw [hsz8]; exact hsz7
      have hb8 : (h + 1 + 1) * 16 ≤ 140737488355328 := by omega
      clear hC7 hX7 hM7 hk7 hk8 hsz8 hsz7 hO7
      go_wp2_with (at_builtin; refine append_one (w.heap.size + 1) rfl _ _ 22 9 (.string ByteArray.empty) 1 16 rfl (by kernel_rfl) infoString rfl (by decide) (by decide) A c (h + 1) _ [.string (tree k its (h + 1) q)] rfl rfl rfl (by simp [Value.oneCell']) hO8 hsz8' hb8 ?_; intro A1 c1 w9 hO9 hk9 hA9)
      go_roundw
      case rel =>
        refine ⟨h + 1, A1, c1, by omega, by go_num, by rw [Hq2.out], rfl, hk9.blk hC8 (fun hb => by have := (hO8.inA hb).1; omega), ?_, hM8.keep hk9 (fun hb => by have := (hO8.inA hb).1; omega), ?_, ?_⟩
        · rw [Hq2.out]; exact hk9.blk hX8 (fun hb => by have := (hO8.inA hb).1; omega)
        · rw [Hnew.out, List.map_append, strs, List.map_append]; exact hO9
        · exact hkk8.then hk9 (fun b hb hA => by have := (hO8.inA hA).1; omega)
      case measure => simp [intOf]; omega
    · obtain rfl : h = t := by omega
      have hall : Kept ((newBs k its n).take (h + 1) = newBs k its n) := ⟨List.take_of_length_le (by rw [newBs_len, ht.out]; exact Nat.le_refl _)⟩
      rw [hall.out] at hM hO
      go_wp2_with fail
      go_ret2
      refine ⟨A, c, by rw [ht.out]; rfl, ?_, ⟨?_, hM, hne, by have := Hn.out; omega⟩, hk⟩
      · rw [ht.out]; exact hO.below (by omega)
      · rw [Int.natCast_add]; exact hC

set_option maxHeartbeats 400000 in
theorem fsize_any (bf bm : Nat) (k : Int) (its : Nat → ByteArray) (n : Nat) (w : World) (hF : IsForest w bf bm k its n) :
    Calls Try.prog 23 #[.pointer (some ⟨bf, 0, none⟩)] w fun e w' => e = .returned (.int .u64 n) ∧ w = w' := by
  have c1 : w.cell? ⟨bf, 1, none⟩ = some (.int .u64 n) := hF.cells.cell' rfl
  go_enter Try.func23, Try.ntmps23
  go_wp2
  go_ret
  exact ⟨rfl, rfl⟩

set_option maxHeartbeats 400000 in
theorem fdigest_any (bf bm : Nat) (k : Int) (its : Nat → ByteArray) (n : Nat) (a b : Int) (w : World) (hF : IsForest w bf bm k its n) :
    Calls Try.prog 27 #[.pointer (some ⟨bf, 0, none⟩), blk a b] w fun e w' => e = .returned (.tuple #[.string ((fdig k its n (a, b)).getD ByteArray.empty), .bool (fdig k its n (a, b)).isSome]) ∧ Same w w' := by
  have hlt := hF.cells.lt
  have hF1 : IsForest (w.alloc (.cells #[.int .i64 a, .int .u64 b] 45)) bf bm k its n := hF.same ((Keeps.refl _ _).alloc _)
  have c2 : (w.alloc (.cells #[.int .i64 a, .int .u64 b] 45)).cell? ⟨bf, 2, none⟩ = some (.map (some bm)) := hF1.cells.cell' rfl
  have hB := Blk.new w 45 (bcells a b)
  have x0 : (w.alloc (.cells #[.int .i64 a, .int .u64 b] 45)).cell? ⟨w.heap.size, 0, none⟩ = some (.int .i64 a) := hB.cell' rfl
  have x1 : (w.alloc (.cells #[.int .i64 a, .int .u64 b] 45)).cell? ⟨w.heap.size, 1, none⟩ = some (.int .u64 b) := hB.cell' rfl
  have hlk : ∀ nq, (Instr.lookup 108 (.map (some bm)) (.agg #[.int .i64 a, .int .u64 b]) true).run Try.prog ((w.alloc (.cells #[.int .i64 a, .int .u64 b] 45)).drewN nq) =
      .ok (.tuple #[.string ((fdig k its n (a, b)).getD ByteArray.empty), .bool (fdig k its n (a, b)).isSome]) ((w.alloc (.cells #[.int .i64 a, .int .u64 b] 45)).drewN nq) := fun nq => by
    have := lookup_map (hF1.map.keep (Keeps.refl (fun _ => False) (w.alloc (.cells #[.int .i64 a, .int .u64 b] 45)) |>.drewN nq) (fun f => f)) (a, b) true
    rw [look_entries k its _ n (by have := hF.bound; omega)] at this
    exact this
  have hs1 : Same w (w.alloc (.cells #[.int .i64 a, .int .u64 b] 45)) := (Keeps.refl _ _).alloc _
  generalize (fdig k its n (a, b)).getD ByteArray.empty = d at *
  generalize (fdig k its n (a, b)).isSome = o at *
  unfold blk
  go_enter Try.func27, Try.ntmps27
  go_wp2_with fail
  go_quiet (fail)
  go_wp2_with fail
  go_ret2
  exact ⟨rfl, hs1.drewN _⟩

set_option maxHeartbeats 400000 in
theorem fnode_any (bf bm : Nat) (k : Int) (its : Nat → ByteArray) (n : Nat) (p : Int) (w : World) (hF : IsForest w bf bm k its n) (h0 : 0 ≤ p) (h1 : p < nodesOf n) :
    Calls Try.prog 25 #[.pointer (some ⟨bf, 0, none⟩), .int .u64 p] w fun e w' =>
      e = .returned (.tuple #[.string ((fdig k its n (((blockAt p.toNat).1 : Nat), ((blockAt p.toNat).2 : Nat))).getD ByteArray.empty), .bool (fdig k its n (((blockAt p.toNat).1 : Nat), ((blockAt p.toNat).2 : Nat))).isSome]) ∧ Same w w' := by
  have c1 : w.cell? ⟨bf, 1, none⟩ = some (.int .u64 n) := hF.cells.cell' rfl
  have hb := hF.bound
  have hnb : nodesOf n ≤ 2 * n := Nat.sub_le _ _
  have K1 : Kept (0 ≤ (n : Int) ∧ (n : Int) ≤ 1099511627776) := ⟨by omega⟩
  have K2 : Kept (0 ≤ p ∧ p < 2199023255551) := ⟨by omega⟩
  have hge : decide ((nodesOf n : Int) ≤ p) = false := decide_eq_false (by omega)
  clear h0 h1 hb hnb
  obtain ⟨a, ha⟩ : ∃ a, Kept ((blockAt p.toNat).1 = a) := ⟨_, ⟨rfl⟩⟩
  obtain ⟨b, hb⟩ : ∃ b, Kept ((blockAt p.toNat).2 = b) := ⟨_, ⟨rfl⟩⟩
  rw [ha.out, hb.out]
  go_enter Try.func25, Try.ntmps25
  go_wp2_with (first
    | (go_at_call 24; refine (nodes_any _ _ K1.out.1 K1.out.2).mono ?_; rintro e w1 ⟨rfl, rfl⟩; rw [Int.toNat_natCast])
    | (go_at_call 26; refine (block_any _ _ K2.out.1 K2.out.2).mono ?_; rintro e w2 ⟨rfl, hs2⟩; rw [ha.out, hb.out]; unfold blk))
  have hF2 := hF.same (hs2.alloc (.cells #[.int .i64 a, .int .u64 b] 45))
  refine (fdigest_any bf bm k its n a b _ hF2).mono ?_
  rintro e w3 ⟨rfl, hs3⟩
  go_wp2_with fail
  go_ret2
  exact ⟨rfl, (hs2.alloc _).trans hs3⟩

set_option maxHeartbeats 400000 in
theorem fnode_beyond (bf bm : Nat) (k : Int) (its : Nat → ByteArray) (n : Nat) (p : Int) (w : World) (hF : IsForest w bf bm k its n) (h1 : (nodesOf n : Int) ≤ p) :
    Calls Try.prog 25 #[.pointer (some ⟨bf, 0, none⟩), .int .u64 p] w fun e w' => e = .returned (.tuple #[.string ByteArray.empty, .bool false]) ∧ w = w' := by
  have c1 : w.cell? ⟨bf, 1, none⟩ = some (.int .u64 n) := hF.cells.cell' rfl
  have hb := hF.bound
  have K1 : Kept (0 ≤ (n : Int) ∧ (n : Int) ≤ 1099511627776) := ⟨by omega⟩
  have hge : decide ((nodesOf n : Int) ≤ p) = true := decide_eq_true h1
  clear h1 hb
  go_enter Try.func25, Try.ntmps25
  go_wp2_with (go_at_call 24; refine (nodes_any _ _ K1.out.1 K1.out.2).mono ?_; rintro e w1 ⟨rfl, rfl⟩; rw [Int.toNat_natCast])
  go_ret2
  exact ⟨rfl, rfl⟩

/-- the digests of blocks, as long as all are there -/
def digs (k : Int) (its : Nat → ByteArray) (n : Nat) : List Bk → Option (List ByteArray)
  | [] => some []
  | b :: l => match fdig k its n b, digs k its n l with
    | some d, some r => some (d :: r)
    | _, _ => none

def bkcells (l : List Bk) : List Value := l.flatMap fun b => bcells b.1 b.2

theorem bkcells_at (l : List Bk) (i : Nat) (hi : i < l.length) : (bkcells l)[i * 2]? = some (.int .i64 l[i].1) ∧ (bkcells l)[i * 2 + 1]? = some (.int .u64 l[i].2) := by
  induction l generalizing i with
  | nil => simp at hi
  | cons x l ih =>
    cases i with
    | zero => exact ⟨rfl, rfl⟩
    | succ i =>
      have := ih i (by simpa using hi)
      have e : bkcells (x :: l) = .int .i64 x.1 :: .int .u64 x.2 :: bkcells l := rfl
      rw [e, show (i + 1) * 2 = i * 2 + 2 by omega]
      simpa using this

theorem digs_append (k : Int) (its : Nat → ByteArray) (n : Nat) (l : List Bk) (b : Bk) : digs k its n (l ++ [b]) = match digs k its n l, fdig k its n b with
    | some r, some d => some (r ++ [d])
    | _, _ => none := by
  induction l with
  | nil => simp only [List.nil_append, digs]; cases fdig k its n b <;> rfl
  | cons x l ih =>
    simp only [List.cons_append, digs, ih]
    cases fdig k its n x <;> cases digs k its n l <;> cases fdig k its n b <;> rfl

theorem digs_none (k : Int) (its : Nat → ByteArray) (n : Nat) (l m : List Bk) (h : digs k its n l = none) : digs k its n (l ++ m) = none := by
  induction l with
  | nil => simp [digs] at h
  | cons x l ih =>
    simp only [List.cons_append, digs] at h ⊢
    cases hx : fdig k its n x with
    | none => rfl
    | some d =>
      rw [hx] at h
      cases hl : digs k its n l with
      | none => rw [ih hl]
      | some r => rw [hl] at h; cases h

theorem digs_len (k : Int) (its : Nat → ByteArray) (n : Nat) (l : List Bk) (r : List ByteArray) (h : digs k its n l = some r) : r.length = l.length := by
  induction l generalizing r with
  | nil => simp [digs] at h; subst h; rfl
  | cons x l ih =>
    simp only [digs] at h
    cases hx : fdig k its n x with
    | none => rw [hx] at h; cases h
    | some d =>
      rw [hx] at h
      cases hl : digs k its n l with
      | none => rw [hl] at h; cases h
      | some r' => rw [hl] at h; cases h; simp [ih r' hl]

/-- what Digests gives -/
def RetDigs (w : World) (o : Option (List ByteArray)) (e : Ending) (w' : World) : Prop :=
  Same w w' ∧ match o with
    | some r => ∃ A c, e = .returned (.tuple #[.slice A r.length c, .bool true]) ∧ Own w' w.heap.size 9 1 A c r.length (strs r)
    | none => e = .returned (.tuple #[.slice none 0 0, .bool false])

set_option maxHeartbeats 2000000 in
theorem fdigests_any (bf bm : Nat) (k : Int) (its : Nat → ByteArray) (n : Nat) (A0 : Option Addr) (c0 : Nat) (l : List Bk) (w : World) (hF : IsForest w bf bm k its n) (hl : l.length ≤ 8796093022207) (hc : Cells w A0 (bkcells l)) :
    Calls Try.prog 30 #[.pointer (some ⟨bf, 0, none⟩), .slice A0 l.length c0] w (RetDigs w (digs k its n l)) := by
  have HL : Kept (l.length ≤ 8796093022207) := ⟨hl⟩
  have hlm : (l.length : Int) ≤ 9223372036854775807 := by omega
  clear hl
  go_enter Try.func30, Try.ntmps30
  go_wp2
  go_loopw [6, 13] (fun o i wr => ∃ (j : Nat) (r : List ByteArray) (A : Option Addr) (c : Nat), j ≤ l.length ∧ i = .int .i64 j ∧ o = .slice A j c ∧ Kept (digs k its n (l.take j) = some r) ∧
      Own wr w.heap.size 9 1 A c j (strs r) ∧ Same w wr) (fun _ i _ => l.length - (intOf i).toNat)
  case atStart => exact ⟨0, [], none, 0, Nat.zero_le _, rfl, rfl, ⟨rfl⟩, Own.none _ _ _ _, Keeps.refl _ _⟩
  case round =>
    obtain ⟨j, r, A, c, hj, rfl, rfl, hd, hO, hs⟩ := hrel
    by_cases hlt : j < l.length
    · obtain ⟨b, o, hA, hcell⟩ := (hc.same hs).at_ (by
        intro h
        have := (bkcells_at l j hlt).1
        rw [h] at this
        cases this)
      subst hA
      have y0 := hcell _ _ (bkcells_at l j hlt).1
      have y1 := hcell _ _ (bkcells_at l j hlt).2
      rw [← Nat.add_assoc] at y1
      clear hcell
      have hap := digs_append k its n (l.take j) l[j]
      rw [hd.out, List.take_append_getElem hlt] at hap
      have Hap := Kept.mk hap
      clear hap
      obtain ⟨⟨x0, x1⟩, hx⟩ : ∃ x : Bk, Kept (l[j] = x) := ⟨_, ⟨rfl⟩⟩
      rw [hx.out] at y0 y1 Hap
      have hs1 : Same w (wr.alloc (.cells #[.int .i64 x0, .int .u64 x1] 45)) := hs.alloc _
      have hF1 := hF.same hs1
      have hO1 := hO.same ((Keeps.refl (fun _ => False) wr).alloc (.cells #[.int .i64 x0, .int .u64 x1] 45))
      have hsz1 : w.heap.size ≤ (wr.alloc (.cells #[.int .i64 x0, .int .u64 x1] 45)).heap.size := hs1.size
      have g2 : (wr.alloc (.cells #[.int .i64 x0, .int .u64 x1] 45)).cell? ⟨bf, 2, none⟩ = some (.map (some bm)) := hF1.cells.cell' rfl
      have hB := Blk.new wr 45 (bcells x0 x1)
      have z0 : (wr.alloc (.cells #[.int .i64 x0, .int .u64 x1] 45)).cell? ⟨wr.heap.size, 0, none⟩ = some (.int .i64 x0) := hB.cell' rfl
      have z1 : (wr.alloc (.cells #[.int .i64 x0, .int .u64 x1] 45)).cell? ⟨wr.heap.size, 1, none⟩ = some (.int .u64 x1) := hB.cell' rfl
      have hlk : ∀ nq, (Instr.lookup 108 (.map (some bm)) (.agg #[.int .i64 x0, .int .u64 x1]) true).run Try.prog ((wr.alloc (.cells #[.int .i64 x0, .int .u64 x1] 45)).drewN nq) =
          .ok (.tuple #[.string ((fdig k its n (x0, x1)).getD ByteArray.empty), .bool (fdig k its n (x0, x1)).isSome]) ((wr.alloc (.cells #[.int .i64 x0, .int .u64 x1] 45)).drewN nq) := fun nq => by
        have := lookup_map (hF1.map.keep (Keeps.refl (fun _ => False) (wr.alloc (.cells #[.int .i64 x0, .int .u64 x1] 45)) |>.drewN nq) (fun f => f)) (x0, x1) true
        rw [look_entries k its _ n (by have := hF.bound; omega)] at this
        exact this
      cases hfd : fdig k its n (x0, x1) with
      | none =>
        rw [hfd] at hlk Hap
        have hnone : Kept (digs k its n l = none) := ⟨by
          have := digs_none k its n (l.take (j + 1)) (l.drop (j + 1)) Hap.out
          rw [List.take_append_drop] at this
          exact this⟩
        simp only [Option.getD_none, Option.isSome_none] at hlk
        clear hfd
        go_wp2_with fail
        go_quiet (fail)
        have hs2 := hs1.drewN nq
        go_wp2_with fail
        go_ret2
        refine ⟨hs2, ?_⟩
        rw [hnone.out]
        rfl
      | some d =>
        rw [hfd] at hlk Hap
        simp only [Option.getD_some, Option.isSome_some] at hlk
        clear hfd
        go_wp2_with fail
        go_quiet (fail)
        have hs2 := hs1.drewN nq
        have hO2 := hO1.same ((Keeps.refl (fun _ => False) (wr.alloc (.cells #[.int .i64 x0, .int .u64 x1] 45))).drewN nq)
        have hsz2 : w.heap.size ≤ ((wr.alloc (.cells #[.int .i64 x0, .int .u64 x1] 45)).drewN nq).heap.size := hsz1
        have hlb : (j + 1) * 16 ≤ 140737488355328 := by have := HL.out; omega
        clear hs1 hF1 hO1 hsz1 g2 hB z0 z1 hlk
        generalize (wr.alloc (.cells #[.int .i64 x0, .int .u64 x1] 45)).drewN nq = w3 at *
        go_wp2_with (at_builtin; refine append_one w.heap.size rfl _ _ 22 9 (.string ByteArray.empty) 1 16 rfl (by kernel_rfl) infoString rfl (by decide) (by decide) A c j _ [.string d] rfl rfl rfl (by simp [Value.oneCell']) hO2 hsz2 hlb ?_; intro A1 c1 w4 hO4 hk4 hA4)
        go_roundw
        case rel =>
          refine ⟨j + 1, r ++ [d], A1, c1, by omega, by go_num, rfl, Hap, by rw [strs, List.map_append]; exact hO4, hs2.then hk4 fun b hb hA => ?_⟩
          have := (hO2.inA hA).1; omega
        case measure => simp [intOf]; omega
    · obtain rfl : j = l.length := by omega
      rw [List.take_length] at hd
      have hrl : Kept (r.length = l.length) := ⟨digs_len k its n l r hd.out⟩
      go_wp2_with fail
      go_ret2
      refine ⟨hs, ?_⟩
      rw [hd.out]
      refine ⟨A, c, ?_, ?_⟩
      · rw [hrl.out]; rfl
      · rw [hrl.out]; exact hO

def toBk (l : List (Nat × Nat)) : List Bk := l.map fun b => ((b.1 : Int), (b.2 : Int))
theorem bkcells_toBk (l : List (Nat × Nat)) : bkcells (toBk l) = bks l := by simp [bkcells, toBk, bks, List.flatMap_map]
theorem toBk_len (l : List (Nat × Nat)) : (toBk l).length = l.length := by simp [toBk]

theorem mtsFrom_in (m : Nat) : ∀ j, ∀ b ∈ mtsFrom m j, (b.2 + 1) * 2 ^ b.1 ≤ m := by
  intro j
  induction j with
  | zero => intro b hb; simp [mtsFrom] at hb
  | succ j ih =>
    intro b hb
    rw [mtsFrom] at hb
    split at hb
    · rename_i h1
      rcases List.mem_cons.1 hb with rfl | hb
      · have h2 := Nat.div_add_mod m (2 ^ (j + 1))
        have h3 : m % 2 ^ (j + 1) = m % 2 ^ j + 2 ^ j * (m / 2 ^ j % 2) := by rw [Nat.pow_succ, Nat.mod_mul]
        rw [h1] at h3
        have e : 2 ^ (j + 1) * (m / 2 ^ (j + 1)) = (m / 2 ^ (j + 1) * 2) * 2 ^ j := by
          rw [Nat.pow_succ, Nat.mul_comm (2 ^ j) 2, Nat.mul_comm (2 * 2 ^ j), Nat.mul_assoc]
        show (m / 2 ^ (j + 1) * 2 + 1) * 2 ^ j ≤ m
        rw [Nat.succ_mul]
        omega
      · exact ih b hb
    · exact ih b hb

def peaks (k : Int) (its : Nat → ByteArray) (m : Nat) : List ByteArray := (mts m).map fun b => tree k its b.1 b.2

theorem fdig_in (k : Int) (its : Nat → ByteArray) (n : Nat) (h j : Nat) (hle : (j + 1) * 2 ^ h ≤ n) : fdig k its n ((h : Int), (j : Int)) = some (tree k its h j) := by
  rw [fdig, if_pos]
  · simp only [Int.toNat_natCast]
  · exact ⟨Int.natCast_nonneg _, Int.natCast_nonneg _, by simp only [Int.toNat_natCast]; exact hle⟩

theorem digs_all (k : Int) (its : Nat → ByteArray) (n : Nat) (l : List (Nat × Nat)) (h : ∀ b ∈ l, (b.2 + 1) * 2 ^ b.1 ≤ n) : digs k its n (toBk l) = some (l.map fun b => tree k its b.1 b.2) := by
  induction l with
  | nil => rfl
  | cons x l ih =>
    have h1 := fdig_in k its n x.1 x.2 (h x (by simp))
    have h2 := ih fun b hb => h b (by simp [hb])
    show (match fdig k its n ((x.1 : Int), (x.2 : Int)), digs k its n (toBk l) with
      | some d, some r => some (d :: r)
      | _, _ => none) = _
    rw [h1, h2]
    rfl

theorem peaks_digs (k : Int) (its : Nat → ByteArray) (n m : Nat) (hm : m ≤ n) : digs k its n (toBk (mts m)) = some (peaks k its m) :=
  digs_all k its n (mts m) fun b hb => Nat.le_trans (mtsFrom_in m 41 b hb) hm

theorem peaks_size (k : Int) (its : Nat → ByteArray) (m : Nat) : ∀ x ∈ peaks k its m, x.size ≤ 1152921504606846976 := by
  intro x hx
  obtain ⟨b, _, rfl⟩ := List.mem_map.1 hx
  rw [tree_size]
  have := clampK_range k
  omega

def rootV (m : Int) (d : ByteArray) : Value := .agg #[.int .u64 m, .string d]

set_option maxHeartbeats 1000000 in
theorem froot_any (bf bm : Nat) (k : Int) (its : Nat → ByteArray) (n m : Nat) (w : World) (hF : IsForest w bf bm k its n) (hm : m ≤ n) :
    Calls Try.prog 21 #[.pointer (some ⟨bf, 0, none⟩), .int .u64 m] w fun e w' => e = .returned (.tuple #[rootV m (hroot k m (peaks k its m)), .int .i64 0]) ∧ Same w w' := by
  have hlt := hF.cells.lt
  have c1 : w.cell? ⟨bf, 1, none⟩ = some (.int .u64 n) := hF.cells.cell' rfl
  have hb := hF.bound
  have K1 : Kept (0 ≤ (m : Int) ∧ (m : Int) ≤ 1099511627776) := ⟨by omega⟩
  have hgt : decide (n < m) = false := decide_eq_false (by omega)
  have K2 : Kept ((mts m).length ≤ 41) := ⟨mtsFrom_len m 41⟩
  have hpl : Kept ((peaks k its m).length = (mts m).length) := ⟨by simp [peaks]⟩
  have hpk : Kept (digs k its n (toBk (mts m)) = some (peaks k its m)) := ⟨peaks_digs k its n m hm⟩
  have hpz : Kept (∀ x ∈ peaks k its m, x.size ≤ 1152921504606846976) := ⟨peaks_size k its m⟩
  clear hb hm
  obtain ⟨l, hl⟩ : ∃ l, Kept (mts m = l) := ⟨_, ⟨rfl⟩⟩
  obtain ⟨p, hp⟩ : ∃ p, Kept (peaks k its m = p) := ⟨_, ⟨rfl⟩⟩
  obtain ⟨d, hdd⟩ : ∃ d, Kept (hroot k m p = d) := ⟨_, ⟨rfl⟩⟩
  rw [hp.out, hdd.out]
  rw [hl.out] at K2 hpl hpk
  rw [hp.out] at hpl hpk hpz
  go_enter Try.func21, Try.ntmps21
  go_wp2_with fail
  refine (mountains_any _ _ K1.out.1 K1.out.2).mono ?_
  rintro e w1 ⟨A1, c1', rfl, hO1, hs1⟩
  rw [Int.toNat_natCast, hl.out] at hO1 ⊢
  have hF1 := hF.same (((Keeps.refl (fun _ => False) w).alloc _).trans hs1)
  have hc1 := hO1.cells
  go_wp2_with fail
  have hd := fdigests_any bf bm k its n A1 c1' (toBk l) w1 hF1 (by rw [toBk_len]; have := K2.out; omega) (by rw [bkcells_toBk]; exact hc1)
  rw [toBk_len, hpk.out] at hd
  refine hd.mono ?_
  rintro e w2 ⟨hs2, A2, c2, rfl, hO2⟩
  have hF2 := hF1.same hs2
  have g0 : w2.cell? ⟨bf, 0, none⟩ = some (.int .i64 k) := hF2.cells.cell' rfl
  have hc2 := hO2.cells
  have hpl2 : p.length ≤ 9223372036854775807 := by rw [hpl.out]; have := K2.out; omega
  clear hd
  have hR0 : Blk (w.alloc (.cells #[.int .u64 0, .string { data := #[] }] 34)) w.heap.size 34 [.int .u64 0, .string { data := #[] }] := Blk.new w _ _
  have hR2 := hs2.blk (hs1.blk hR0 (fun f => f)) (fun f => f)
  have hs02 : Same w w2 := (((Keeps.refl (fun _ => False) w).alloc _).trans hs1).trans hs2
  clear hO1 hs1 hF1 hc1 hs2 hR0
  go_wp2_with fail
  refine (hroot_any _ _ _ _ p _ hpl2 hpz.out hc2).mono ?_
  rintro e w3 ⟨rfl, hs3⟩
  have hR3 := hs3.blk hR2 (fun f => f)
  rw [hdd.out]
  go_wp2_with (refine wpList_store_blk rfl 34 _ _ rfl w.heap.size [.int .u64 m, .string d] rfl rfl 34 _ hR3 (by kernel_rfl) rfl (by simp [Value.oneCell']) ?_; intro w4 hR4 hk4 _)
  have r0 : w4.cell? ⟨w.heap.size, 0, none⟩ = some (.int .u64 m) := hR4.cell' rfl
  have r1 : w4.cell? ⟨w.heap.size, 1, none⟩ = some (.string d) := hR4.cell' rfl
  refine bodyPost_ret (v := .tuple #[rootV m d, .int .i64 0]) ?_ rfl ⟨rfl, (hs02.trans hs3).then hk4 fun i hi e => by omega⟩
  simp [results, Try.results21, go_sem, r0, r1, rootV]

set_option maxHeartbeats 400000 in
theorem froot_big (bf bm : Nat) (k : Int) (its : Nat → ByteArray) (n : Nat) (m : Int) (w : World) (hF : IsForest w bf bm k its n) (hm : (n : Int) < m) :
    Calls Try.prog 21 #[.pointer (some ⟨bf, 0, none⟩), .int .u64 m] w fun e w' => e = .returned (.tuple #[rootV 0 ByteArray.empty, .int .i64 30]) ∧ Same w w' := by
  have hlt := hF.cells.lt
  have c1 : w.cell? ⟨bf, 1, none⟩ = some (.int .u64 n) := hF.cells.cell' rfl
  have hgt : decide ((n : Int) < m) = true := decide_eq_true hm
  clear hm
  go_enter Try.func21, Try.ntmps21
  go_wp2
  refine bodyPost_ret (v := .tuple #[rootV 0 ByteArray.empty, .int .i64 30]) ?_ rfl ⟨rfl, (Keeps.refl _ _).alloc _⟩
  simp [results, Try.results21, go_sem, rootV]
  rfl
end Go.Proofs.Ytkokagbmmlngjaa
