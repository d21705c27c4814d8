/- Package num: bits of numbers: the plain functions and the walks. -/
import Derived.Test.YtkokagbmmlngjaaProg
import Derived.Test.YtkokagbmmlngjaaBase
namespace Go.Proofs.Ytkokagbmmlngjaa
open Go.RowKit
set_option maxRecDepth 100000

/-- how many of the lowest k bits are ones -/
def sumBits (n : Nat) : Nat → Nat
  | 0 => 0
  | k + 1 => sumBits n k + n / 2 ^ k % 2
/-- how many ones -/
def ones (n : Nat) : Nat := sumBits n 64

theorem sumBits_le (n k : Nat) : sumBits n k ≤ k := by
  induction k with
  | zero => exact Nat.le_refl _
  | succ k ih => simp only [sumBits]; have := Nat.mod_lt (n / 2 ^ k) (show 0 < 2 by decide); omega

theorem and_one_u64' (x : Nat) (hx : x < 18446744073709551616) : bits .and .u64 (x : Int) 1 = ((x % 2 : Nat) : Int) := by
  have h := bits_and_u64_nat x 1 hx (by decide)
  rw [Nat.and_one_is_mod] at h
  exact h

theorem natPow (k : Nat) : (2 : Int) ^ k = ((2 ^ k : Nat) : Int) := by simp
theorem intDiv (n k : Nat) : (n : Int) / 2 ^ k = ((n / 2 ^ k : Nat) : Int) := by rw [natPow, ← Int.natCast_ediv]

set_option maxHeartbeats 400000 in
theorem ones_any (n : Int) (w : World) (h0 : 0 ≤ n) (h1 : n < 18446744073709551616) :
    Calls Try.prog 55 #[.int .u64 n] w fun e w' => e = .returned (.int .i64 (ones n.toNat)) ∧ w = w' := by
  obtain ⟨n, rfl⟩ := Int.eq_ofNat_of_zero_le h0
  rw [Int.toNat_natCast]
  have H1 : Kept (n < 18446744073709551616) := ⟨by omega⟩
  clear h1 h0
  go_enter Try.func55, Try.ntmps55
  go_wp2
  go_loop [3, 5] (fun c i => ∃ (k : Nat), k ≤ 64 ∧ i = .int .i64 k ∧ c = .int .i64 (sumBits n k)) (fun _ i => 64 - (intOf i).toNat)
  case atStart => exact ⟨0, by omega, rfl, rfl⟩
  case round =>
    obtain ⟨k, hk, rfl, rfl⟩ := hrel
    by_cases hlt : k < 64
    · have hb : bits .and .u64 ((n : Int) / 2 ^ k) 1 = ((n / 2 ^ k % 2 : Nat) : Int) := by
        rw [intDiv]
        exact and_one_u64' _ (Nat.lt_of_le_of_lt (Nat.div_le_self _ _) H1.out)
      have hs := sumBits_le n k
      have hm : n / 2 ^ k % 2 ≤ 1 := by omega
      have hS : Kept (sumBits n (k + 1) = sumBits n k + n / 2 ^ k % 2) := ⟨rfl⟩
      generalize n / 2 ^ k % 2 = b at *
      generalize sumBits n k = s at *
      go_wp2
      go_round
      case rel =>
        exact ⟨k + 1, by omega, by go_num, by rw [hS.out]; go_num⟩
      case measure => simp [intOf]; omega
    · obtain rfl : k = 64 := by omega
      go_wp2
      go_ret
      exact ⟨rfl, rfl⟩
/-- the number of the highest one among the lowest k bits; -1, if there is none -/
def logTo (n : Nat) : Nat → Int
  | 0 => -1
  | k + 1 => if n / 2 ^ k % 2 = 1 then k else logTo n k

theorem logTo_range (n k : Nat) : -1 ≤ logTo n k ∧ logTo n k < k := by
  induction k with
  | zero => simp [logTo]
  | succ k ih => simp only [logTo]; split <;> omega

theorem logTo_of (n h k : Nat) (hb : n / 2 ^ h % 2 = 1) (hk : h < k) (hz : ∀ j, h < j → j < k → n / 2 ^ j % 2 = 0) : logTo n k = h := by
  induction k with
  | zero => omega
  | succ k ih =>
    rw [logTo]
    by_cases e : h = k
    · subst e; rw [if_pos hb]
    · rw [if_neg (by rw [hz k (by omega) (by omega)]; omega)]
      exact ih (by omega) fun j h1 h2 => hz j h1 (by omega)

set_option maxHeartbeats 400000 in
theorem log_any (n : Int) (w : World) (h0 : 0 ≤ n) (h1 : n < 18446744073709551616) :
    Calls Try.prog 123 #[.int .u64 n] w fun e w' => e = .returned (.int .i64 (logTo n.toNat 64)) ∧ w = w' := by
  obtain ⟨n, rfl⟩ := Int.eq_ofNat_of_zero_le h0
  rw [Int.toNat_natCast]
  have H1 : Kept (n < 18446744073709551616) := ⟨by omega⟩
  clear h1 h0
  go_enter Try.func123, Try.ntmps123
  go_wp2
  go_loop [3, 5] (fun c i => ∃ (k : Nat), k ≤ 64 ∧ i = .int .i64 k ∧ c = .int .i64 (logTo n k)) (fun _ i => 64 - (intOf i).toNat)
  case atStart => exact ⟨0, by omega, rfl, rfl⟩
  case round =>
    obtain ⟨k, hk, rfl, rfl⟩ := hrel
    by_cases hlt : k < 64
    · have hb : bits .and .u64 ((n : Int) / 2 ^ k) 1 = ((n / 2 ^ k % 2 : Nat) : Int) := by
        rw [intDiv]
        exact and_one_u64' _ (Nat.lt_of_le_of_lt (Nat.div_le_self _ _) H1.out)
      have hm : n / 2 ^ k % 2 = 0 ∨ n / 2 ^ k % 2 = 1 := by omega
      have hS : Kept (logTo n (k + 1) = if n / 2 ^ k % 2 = 1 then (k : Int) else logTo n k) := ⟨rfl⟩
      generalize n / 2 ^ k % 2 = b at *
      generalize logTo n k = s at *
      rcases hm with rfl | rfl
      · go_wp2
        go_round
        case rel =>
          exact ⟨k + 1, by omega, by go_num, by rw [hS.out]; rfl⟩
        case measure => simp [intOf]; omega
      · go_wp2
        go_round
        case rel =>
          exact ⟨k + 1, by omega, by go_num, by rw [hS.out]; rfl⟩
        case measure => simp [intOf]; omega
    · obtain rfl : k = 64 := by omega
      go_wp2
      go_ret
      exact ⟨rfl, rfl⟩

/-- the number of zeros at the end, from bit k on, d bits looked at -/
def trailFrom (n : Nat) : Nat → Nat → Nat
  | 0, k => k
  | d + 1, k => if n / 2 ^ k % 2 = 1 then k else trailFrom n d (k + 1)
def trail (n : Nat) : Nat := trailFrom n 64 0

theorem trailFrom_of (n t : Nat) (hb : n / 2 ^ t % 2 = 1) : ∀ d k, k ≤ t → t < k + d → (∀ j, k ≤ j → j < t → n / 2 ^ j % 2 = 0) → trailFrom n d k = t := by
  intro d
  induction d with
  | zero => intro k h1 h2; omega
  | succ d ih =>
    intro k h1 h2 hz
    rw [trailFrom]
    by_cases e : k = t
    · subst e; rw [if_pos hb]
    · rw [if_neg (by rw [hz k (Nat.le_refl _) (by omega)]; omega)]
      exact ih (k + 1) (by omega) (by omega) fun j h3 h4 => hz j (by omega) h4
theorem trail_of (n t : Nat) (hb : n / 2 ^ t % 2 = 1) (ht : t < 64) (hz : ∀ j, j < t → n / 2 ^ j % 2 = 0) : trail n = t :=
  trailFrom_of n t hb 64 0 (Nat.zero_le _) (by omega) fun j _ h => hz j h
theorem trailFrom_range (n : Nat) : ∀ d k, k ≤ trailFrom n d k ∧ trailFrom n d k ≤ k + d := by
  intro d
  induction d with
  | zero => intro k; simp [trailFrom]
  | succ d ih =>
    intro k
    rw [trailFrom]
    split
    · omega
    · have := ih (k + 1); omega

set_option maxHeartbeats 400000 in
theorem trail_any (n : Int) (w : World) (h0 : 0 ≤ n) (h1 : n < 18446744073709551616) :
    Calls Try.prog 80 #[.int .u64 n] w fun e w' => e = .returned (.int .i64 (trail n.toNat)) ∧ w = w' := by
  obtain ⟨n, rfl⟩ := Int.eq_ofNat_of_zero_le h0
  rw [Int.toNat_natCast]
  have H1 : Kept (n < 18446744073709551616) := ⟨by omega⟩
  clear h1 h0
  go_enter Try.func80, Try.ntmps80
  go_wp2
  go_loop [4] (fun i => ∃ (k : Nat), k ≤ 64 ∧ i = .int .i64 k ∧ Kept (trail n = trailFrom n (64 - k) k)) (fun i => 64 - (intOf i).toNat)
  case atStart => exact ⟨0, by omega, rfl, ⟨rfl⟩⟩
  case round =>
    obtain ⟨k, hk, rfl, ht⟩ := hrel
    by_cases hlt : k < 64
    · have hb : bits .and .u64 ((n : Int) / 2 ^ k) 1 = ((n / 2 ^ k % 2 : Nat) : Int) := by
        rw [intDiv]
        exact and_one_u64' _ (Nat.lt_of_le_of_lt (Nat.div_le_self _ _) H1.out)
      have hm : n / 2 ^ k % 2 = 0 ∨ n / 2 ^ k % 2 = 1 := by omega
      have hS : Kept (trail n = if n / 2 ^ k % 2 = 1 then k else trailFrom n (64 - (k + 1)) (k + 1)) := ⟨by
        rw [ht.out, show 64 - k = (64 - (k + 1)) + 1 by omega, trailFrom]⟩
      generalize n / 2 ^ k % 2 = b at *
      rcases hm with rfl | rfl
      · go_wp2
        go_round
        case rel =>
          exact ⟨k + 1, by omega, by go_num, ⟨by rw [hS.out]; rfl⟩⟩
        case measure => simp [intOf]; omega
      · go_wp2
        go_ret
        exact ⟨by rw [hS.out]; rfl, rfl⟩
    · obtain rfl : k = 64 := by omega
      go_wp2
      go_ret
      exact ⟨by rw [ht.out]; rfl, rfl⟩

end Go.Proofs.Ytkokagbmmlngjaa
