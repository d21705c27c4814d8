/- Packages place (Nodes, Block) and cover (Mountains): the plain functions and the walks. -/
import Derived.Test.YtkokagbmmlngjaaNum
import Derived.Test.YtkokagbmmlngjaaHash
namespace Go.Proofs.Ytkokagbmmlngjaa
open Go.RowKit
set_option maxRecDepth 100000

def nodesOf (n : Nat) : Nat := 2 * n - ones n
theorem ones_le (n : Nat) : ones n ≤ 64 := sumBits_le n 64

/-- all bits but those below k, by what they are worth -/
theorem sumBits_le_self (n k : Nat) : sumBits n k ≤ n := by
  have : ∀ k, sumBits n k ≤ n % 2 ^ k := by
    intro k
    induction k with
    | zero => simp [sumBits]
    | succ k ih =>
      rw [sumBits, Nat.pow_succ, Nat.mod_mul]
      have hp : 0 < 2 ^ k := Nat.two_pow_pos k
      have hb : n / 2 ^ k % 2 = 0 ∨ n / 2 ^ k % 2 = 1 := by omega
      rcases hb with hb | hb <;> rw [hb] <;> omega
  exact Nat.le_trans (this k) (Nat.mod_le _ _)

set_option maxHeartbeats 400000 in
theorem nodes_any (n : Int) (w : World) (h0 : 0 ≤ n) (h1 : n ≤ 1099511627776) :
    Calls Try.prog 24 #[.int .u64 n] w fun e w' => e = .returned (.tuple #[.int .u64 (nodesOf n.toNat), .bool true]) ∧ w = w' := by
  obtain ⟨n, rfl⟩ := Int.eq_ofNat_of_zero_le h0
  rw [Int.toNat_natCast]
  have h2 := ones_le n
  have h3 : ones n ≤ n := sumBits_le_self n 64
  have hN : Kept ((nodesOf n : Int) = 2 * (n : Int) - (ones n : Int)) := ⟨by unfold nodesOf; omega⟩
  go_enter Try.func24, Try.ntmps24
  go_wp2_with (go_at_call 55; refine (ones_any _ _ (by omega) (by omega)).mono ?_; rintro e w1 ⟨rfl, rfl⟩; rw [Int.toNat_natCast]; generalize ones n = m at *)
  go_ret2
  refine ⟨?_, rfl⟩
  rw [hN.out]
  rfl

/-- down from a block to the one whose node stands at place p -/
def descend (p : Nat) : (h k at_ : Nat) → Nat × Nat
  | 0, k, _ => (0, k)
  | h + 1, k, at_ => if at_ = p then (h + 1, k) else if p ≤ at_ - 2 ^ (h + 1) then descend p h (2 * k) (at_ - 2 ^ (h + 1)) else descend p h (2 * k + 1) (at_ - 1)
def blockAt (p : Nat) : Nat × Nat := descend p 40 0 2199023255550

def blk (h k : Int) : Value := .agg #[.int .i64 h, .int .u64 k]
def bcells (h k : Int) : List Value := [.int .i64 h, .int .u64 k]

set_option maxHeartbeats 1000000 in
theorem block_any (p : Int) (w : World) (h0 : 0 ≤ p) (h1 : p < 2199023255551) :
    Calls Try.prog 26 #[.int .u64 p] w fun e w' => e = .returned (.tuple #[blk (blockAt p.toNat).1 (blockAt p.toNat).2, .bool true]) ∧ Same w w' := by
  obtain ⟨p, rfl⟩ := Int.eq_ofNat_of_zero_le h0
  rw [Int.toNat_natCast]
  have H1 : Kept (p < 2199023255551) := ⟨by omega⟩
  have hge : decide ((2199023255551 : Int) ≤ (p : Int)) = false := decide_eq_false (by omega)
  clear h0 h1
  go_enter Try.func26, Try.ntmps26
  go_wp2
  go_loopw [5] (fun t wr => ∃ h k at_ lo : Nat, h ≤ 40 ∧ Kept (k + 1 ≤ 2 ^ (40 - h)) ∧ t = .int .u64 at_ ∧ Same w wr ∧ Blk wr w.heap.size 45 (bcells 0 0) ∧ Blk wr (w.heap.size + 1) 45 (bcells h k) ∧
      Kept (blockAt p = descend p h k at_) ∧ Kept (at_ + 2 = lo + 2 ^ (h + 1)) ∧ lo ≤ p ∧ p ≤ at_ ∧ at_ < 2199023255552) (fun t wr => (intOf t).toNat)
  case atStart =>
    exact ⟨40, 0, 2199023255550, 0, by omega, ⟨by decide⟩, rfl, ((Keeps.refl _ _).alloc _).alloc _, (Blk.new w 45 (bcells 0 0)).alloc _, by
      have := Blk.new (w.alloc (.cells (bcells 0 0).toArray 45)) 45 (bcells 40 0)
      rw [World.size_alloc] at this
      exact this, ⟨rfl⟩, ⟨by decide⟩, by omega, by have := H1.out; omega, by omega⟩
  case round =>
    obtain ⟨h, k, at_, lo, hh, hk, rfl, hs, hB0, hB1, hd, hlo, hp1, hp2, hat⟩ := hrel
    by_cases he : at_ = p
    · have hdp : Kept (descend p h k at_ = (h, k)) := ⟨by
        cases h with
        | zero => rfl
        | succ h => rw [descend, if_pos he]⟩
      have hne : ((at_ : Int) != (p : Int)) = false := by rw [bne_eq_false_iff_eq]; omega
      have c0 := hB1.cell' (show (bcells h k)[0]? = some (.int .i64 h) from rfl)
      have c1 := hB1.cell' (show (bcells h k)[1]? = some (.int .u64 k) from rfl)
      have z0 := hB0.cell' (show (bcells 0 0)[0]? = some (.int .i64 0) from rfl)
      have z1 := hB0.cell' (show (bcells 0 0)[1]? = some (.int .u64 0) from rfl)
      have f0 := hB0.frozen 0
      have f1 := hB0.frozen 1
      clear he
      have hB2 := (hB0.set 0 (.int .i64 h)).set 1 (.int .u64 k)
      have hs2 := (hs.setCell (p := ⟨w.heap.size, 0, none⟩) (.inr (Nat.le_refl _)) (.int .i64 h)).setCell (p := ⟨w.heap.size, 1, none⟩) (.inr (Nat.le_refl _)) (.int .u64 k)
      have r0 := hB2.cell' (show (bcells h k)[0]? = some (.int .i64 h) from rfl)
      have r1 := hB2.cell' (show (bcells h k)[1]? = some (.int .u64 k) from rfl)
      go_wp2_with fail
      refine bodyPost_ret (v := .tuple #[blk h k, .bool true]) ?_ rfl ⟨by rw [hd.out, hdp.out], hs2⟩
      simp [results, Try.results26, go_sem, r0, r1, blk]
    · obtain ⟨g, rfl⟩ : ∃ g, h = g + 1 := ⟨h - 1, by
        have := hlo.out
        cases h with
        | zero => simp at this; omega
        | succ h => rfl⟩
      have hne : ((at_ : Int) != (p : Int)) = true := by rw [bne_iff_ne]; omega
      have c0 := hB1.cell' (show (bcells ((g + 1 : Nat) : Int) k)[0]? = some (.int .i64 ((g + 1 : Nat) : Int)) from rfl)
      have c1 := hB1.cell' (show (bcells ((g + 1 : Nat) : Int) k)[1]? = some (.int .u64 k) from rfl)
      have f0 := hB1.frozen 0
      have f1 := hB1.frozen 1
      obtain ⟨P, hPd⟩ : ∃ P : Nat, Kept (P = 2 ^ (g + 1)) := ⟨_, ⟨rfl⟩⟩
      have hPb : P ≤ 1099511627776 := by
        rw [hPd.out]; exact Nat.pow_le_pow_right (by decide) hh
      have hk2 : Kept (2 * k + 2 ≤ 2 ^ (40 - g)) := ⟨by
        have := hk.out
        rw [show 40 - g = 40 - (g + 1) + 1 by omega, Nat.pow_succ]; omega⟩
      have hkb : k < 1099511627776 := by
        have := hk.out
        have h2 : 2 ^ (40 - (g + 1)) ≤ 2 ^ 40 := Nat.pow_le_pow_right (by decide) (by omega)
        omega
      have hPp : 2 ≤ P := by
        rw [hPd.out, Nat.pow_succ]; have := Nat.two_pow_pos g; omega
      have hPw : IntKind.u64.wrap ((2 : Int) ^ (g + 1)) = (P : Int) := by
        rw [IntKind.wrap_u64, natPow, ← hPd.out]; omega
      have hlo2 : at_ + 2 = lo + 2 * P := by rw [hlo.out, hPd.out, Nat.pow_succ]; omega
      have hlo3 : P ≤ at_ := by omega
      have H2 : Kept (at_ + 2 = lo + 2 * P) := ⟨hlo2⟩
      have h1at : 1 ≤ at_ := by omega
      have hne' : Kept (at_ ≠ p) := ⟨he⟩
      clear he hlo2
      have hB2 := (hB1.set 0 (.int .i64 g)).set 1 (.int .u64 (2 * (k : Int)))
      have hs2 := (hs.setCell (p := ⟨w.heap.size + 1, 0, none⟩) (.inr (Nat.le_succ _)) (.int .i64 g)).setCell (p := ⟨w.heap.size + 1, 1, none⟩) (.inr (Nat.le_succ _)) (.int .u64 (2 * (k : Int)))
      have hB02 := (hB0.setOther (show w.heap.size + 1 ≠ w.heap.size by omega) 0 (.int .i64 g)).setOther (show w.heap.size + 1 ≠ w.heap.size by omega) 1 (.int .u64 (2 * (k : Int)))
      by_cases hl : p ≤ at_ - P
      · have hdd : Kept (blockAt p = descend p g (2 * k) (at_ - P)) := ⟨by rw [hd.out, descend, if_neg hne'.out, ← hPd.out, if_pos hl]⟩
        have hl' : ¬ ((at_ : Int) - P < p) := by omega
        go_wp2_with fail
        go_roundw
        case rel =>
          exact ⟨g, 2 * k, at_ - P, lo, by omega, ⟨by have := hk2.out; omega⟩, by congr 1; omega, hs2, hB02, by rw [Int.natCast_mul]; exact hB2, hdd, ⟨by rw [← hPd.out]; have := H2.out; omega⟩, hp1, hl, by omega⟩
        case measure => simp [intOf]; omega
      · have hdd : Kept (blockAt p = descend p g (2 * k + 1) (at_ - 1)) := ⟨by rw [hd.out, descend, if_neg hne'.out, ← hPd.out, if_neg hl]⟩
        have hl' : (at_ : Int) - P < p := by omega
        go_wp2_with fail
        go_roundw
        case rel =>
          refine ⟨g, 2 * k + 1, at_ - 1, lo + P - 1, by omega, ⟨by have := hk2.out; omega⟩, by congr 1; omega, hs2.setCell (.inr (Nat.le_succ _)) _, hB02.setOther (by omega) _ _, ?_, hdd, ⟨by rw [← hPd.out]; have := H2.out; omega⟩, by have := H2.out; omega, by have := hne'.out; omega, by omega⟩
          have := hB2.set 1 (.int .u64 (2 * (k : Int) + 1))
          rw [Int.natCast_add, Int.natCast_mul]
          exact this
        case measure => simp [intOf]; omega
end Go.Proofs.Ytkokagbmmlngjaa
