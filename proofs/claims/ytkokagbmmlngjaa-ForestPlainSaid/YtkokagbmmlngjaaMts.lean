/- cover.Mountains: the plain function and the walk. -/
import Derived.Test.YtkokagbmmlngjaaPlace
namespace Go.Proofs.Ytkokagbmmlngjaa
open Go.RowKit
set_option maxRecDepth 100000

/-- the mountains of n of the bits below j, the greatest first -/
def mtsFrom (n : Nat) : Nat → List (Nat × Nat)
  | 0 => []
  | h + 1 => if n / 2 ^ h % 2 = 1 then (h, n / 2 ^ (h + 1) * 2) :: mtsFrom n h else mtsFrom n h
def mts (n : Nat) : List (Nat × Nat) := mtsFrom n 41

def bks (l : List (Nat × Nat)) : List Value := l.flatMap fun b => bcells b.1 b.2
theorem bks_len (l : List (Nat × Nat)) : (bks l).length = l.length * 2 := by
  induction l with
  | nil => rfl
  | cons x l ih => simp only [bks, List.flatMap_cons, List.length_append, List.length_cons] at *; rw [ih]; simp [bcells]; omega
theorem bks_append (l m : List (Nat × Nat)) : bks (l ++ m) = bks l ++ bks m := by simp [bks]
theorem bks_one (h k : Nat) : bks [(h, k)] = bcells h k := by simp [bks]
theorem bks_at (l : List (Nat × Nat)) (i : Nat) (hi : i < l.length) : (bks l)[i * 2]? = some (.int .i64 (l[i].1 : Nat)) ∧ (bks l)[i * 2 + 1]? = some (.int .u64 (l[i].2 : Nat)) := by
  induction l generalizing i with
  | nil => simp at hi
  | cons x l ih =>
    cases i with
    | zero => exact ⟨rfl, rfl⟩
    | succ i =>
      have := ih i (by simpa using hi)
      have e : bks (x :: l) = .int .i64 (x.1 : Nat) :: .int .u64 (x.2 : Nat) :: bks l := rfl
      rw [e, show (i + 1) * 2 = i * 2 + 2 by omega]
      simpa using this
theorem bks_oneCell (l : List (Nat × Nat)) : ∀ v ∈ bks l, v.oneCell' = true := by
  intro v hv
  obtain ⟨x, _, hx⟩ := List.mem_flatMap.1 hv
  simp only [bcells, List.mem_cons, List.not_mem_nil, or_false] at hx
  rcases hx with rfl | rfl <;> rfl

theorem mod_bit (n i j : Nat) (h : i < j) : n % 2 ^ j / 2 ^ i % 2 = n / 2 ^ i % 2 := by
  have e : 2 ^ j = 2 ^ i * (2 ^ (j - i - 1) * 2) := by rw [← Nat.mul_assoc, ← Nat.pow_add, ← Nat.pow_succ]; congr 1; omega
  rw [e, Nat.mod_mul_right_div_self, Nat.mod_mul_left_mod]

theorem mtsFrom_skip (n h : Nat) (hb : n / 2 ^ h % 2 = 1) : ∀ j, h < j → (∀ i, h < i → i < j → n / 2 ^ i % 2 = 0) → mtsFrom n j = (h, n / 2 ^ (h + 1) * 2) :: mtsFrom n h := by
  intro j
  induction j with
  | zero => intro h1; omega
  | succ j ih =>
    intro h1 hz
    rw [mtsFrom]
    by_cases e : h = j
    · subst e; rw [if_pos hb]
    · rw [if_neg (by rw [hz j (by omega) (by omega)]; omega)]
      exact ih (by omega) fun i h2 h3 => hz i h2 (by omega)

theorem mtsFrom_zero (n : Nat) : ∀ j, n % 2 ^ j = 0 → mtsFrom n j = [] := by
  intro j
  induction j with
  | zero => intro _; rfl
  | succ j ih =>
    intro h
    have h1 : n / 2 ^ j % 2 = 0 := by
      rw [← mod_bit n j (j + 1) (by omega), h]; simp
    have h2 : n % 2 ^ j = 0 := by
      have : n % 2 ^ (j + 1) % 2 ^ j = n % 2 ^ j := Nat.mod_mod_of_dvd _ ⟨2, Nat.pow_succ 2 j⟩
      rw [← this, h]; simp
    rw [mtsFrom, if_neg (by omega)]
    exact ih h2

/-- the highest one of what is left -/
theorem top_bit (n j : Nat) (hj : j ≤ 64) (hpos : 0 < n % 2 ^ j) : ∃ h, h < j ∧ logTo (n % 2 ^ j) 64 = h ∧ mtsFrom n j = (h, n / 2 ^ (h + 1) * 2) :: mtsFrom n h ∧
    n % 2 ^ h + 2 ^ h = n % 2 ^ j ∧ (n - n % 2 ^ j) / 2 ^ h = n / 2 ^ (h + 1) * 2 := by
  have hm : n % 2 ^ j ≠ 0 := by omega
  obtain ⟨h, hh⟩ : ∃ h, h = (n % 2 ^ j).log2 := ⟨_, rfl⟩
  have hlo : 2 ^ h ≤ n % 2 ^ j := by rw [hh]; exact Nat.log2_self_le hm
  have hhi : n % 2 ^ j < 2 ^ (h + 1) := by rw [hh]; exact Nat.lt_log2_self
  have hlt : n % 2 ^ j < 2 ^ j := Nat.mod_lt _ (Nat.two_pow_pos j)
  have hhj : h < j := (Nat.pow_lt_pow_iff_right (by decide)).1 (Nat.lt_of_le_of_lt hlo hlt)
  have hb : n % 2 ^ j / 2 ^ h % 2 = 1 := by
    have : n % 2 ^ j / 2 ^ h = 1 := Nat.div_eq_of_lt_le (by omega) (by rw [Nat.pow_succ] at hhi; omega)
    rw [this]
  have hz : ∀ i, h < i → n % 2 ^ j / 2 ^ i % 2 = 0 := by
    intro i hi
    have : n % 2 ^ j < 2 ^ i := Nat.lt_of_lt_of_le hhi (Nat.pow_le_pow_right (by decide) hi)
    rw [Nat.div_eq_of_lt this]
  have em : n % 2 ^ j = n % 2 ^ (h + 1) := by
    have : n % 2 ^ j % 2 ^ (h + 1) = n % 2 ^ (h + 1) := Nat.mod_mod_of_dvd _ (Nat.pow_dvd_pow 2 hhj)
    rw [← this, Nat.mod_eq_of_lt hhi]
  refine ⟨h, hhj, logTo_of _ h 64 hb (by omega) fun i h1 h2 => hz i h1, ?_, ?_, ?_⟩
  · refine mtsFrom_skip n h ?_ j hhj fun i h1 h2 => ?_
    · rw [← mod_bit n h j hhj]; exact hb
    · rw [← mod_bit n i j h2]; exact hz i h1
  · have h1 : n % 2 ^ (h + 1) = n % 2 ^ h + 2 ^ h * (n / 2 ^ h % 2) := by rw [Nat.pow_succ, Nat.mod_mul]
    rw [em, h1, ← mod_bit n h j hhj, hb]; omega
  · rw [em]
    have h1 : n - n % 2 ^ (h + 1) = 2 ^ h * (n / 2 ^ (h + 1) * 2) := by
      have := Nat.div_add_mod n (2 ^ (h + 1))
      rw [Nat.pow_succ] at *
      have e : 2 ^ h * (n / (2 ^ h * 2) * 2) = 2 ^ h * 2 * (n / (2 ^ h * 2)) := by
        rw [Nat.mul_comm (n / _) 2, Nat.mul_assoc]
      rw [e]; omega
    rw [h1, Nat.mul_div_cancel_left _ (Nat.two_pow_pos h)]

theorem mtsFrom_len (n j : Nat) : (mtsFrom n j).length ≤ j := by
  induction j with
  | zero => simp [mtsFrom]
  | succ j ih =>
    rw [mtsFrom]; split
    · simp; exact ih
    · omega

/-- what Mountains gives -/
def RetBks (w : World) (l : List (Nat × Nat)) (e : Ending) (w' : World) : Prop :=
  ∃ A c, e = .returned (.tuple #[.slice A l.length c, .int .i64 0]) ∧ Own w' w.heap.size 45 2 A c l.length (bks l) ∧ Same w w'

theorem infoBlock : Info Try.prog 45 (.agg #[.int .i64 0, .int .u64 0]) 2 16 := by
  unfold Info
  kernel_rfl

set_option maxHeartbeats 2000000 in
theorem mountains_any (n : Int) (w : World) (h0 : 0 ≤ n) (h1 : n ≤ 1099511627776) :
    Calls Try.prog 79 #[.int .u64 n] w (RetBks w (mts n.toNat)) := by
  obtain ⟨n, rfl⟩ := Int.eq_ofNat_of_zero_le h0
  rw [Int.toNat_natCast]
  have hnb : n ≤ 1099511627776 := by omega
  have hgt : decide ((1099511627776 : Int) < (n : Int)) = false := decide_eq_false (by omega)
  clear h0 h1
  go_enter Try.func79, Try.ntmps79
  go_wp2
  go_loopw [4, 5, 6] (fun o l t wr => ∃ (j m a c : Nat) (A : Option Addr) (done : List (Nat × Nat)), j ≤ 41 ∧ o = .slice A done.length c ∧ l = .int .u64 m ∧ t = .int .u64 a ∧ Kept (m = n % 2 ^ j) ∧ Kept (a = n - n % 2 ^ j) ∧
      Kept (mts n = done ++ mtsFrom n j) ∧ Own wr w.heap.size 45 2 A c done.length (bks done) ∧ Same w wr) (fun _ l _ _ => (intOf l).toNat)
  case atStart =>
    refine ⟨41, n, 0, 0, none, [], by omega, rfl, rfl, rfl, ⟨?_⟩, ⟨?_⟩, ⟨rfl⟩, Own.none _ _ _ _, Keeps.refl _ _⟩
    · rw [Nat.mod_eq_of_lt]; omega
    · rw [Nat.mod_eq_of_lt]; omega; omega
  case round =>
    obtain ⟨j, m, a, c, A, done, hj, rfl, rfl, rfl, hm, ha, hd, hO, hs⟩ := hrel
    by_cases hpos : 0 < m
    · have hmlt : m ≤ n := by rw [hm.out]; exact Nat.mod_le _ _
      obtain ⟨h, hhj, hlog, hmts, hsum, hdiv⟩ := top_bit n j (by omega) (by rw [← hm.out]; exact hpos)
      have ham : a + m = n := by rw [hm.out, ha.out]; have := Nat.mod_le n (2 ^ j); omega
      have hlog' : Kept (logTo m 64 = (h : Int)) := ⟨by rw [hm.out]; exact hlog⟩
      obtain ⟨P, hP⟩ : ∃ P, Kept (2 ^ h = P) := ⟨_, ⟨rfl⟩⟩
      have hPp : 0 < P := by rw [← hP.out]; exact Nat.two_pow_pos h
      have hPm : P ≤ m := by rw [← hP.out, hm.out]; omega
      have hPw : IntKind.u64.wrap ((2 : Int) ^ h) = (P : Int) := by
        rw [IntKind.wrap_u64, natPow, hP.out]; omega
      have hdl : done.length ≤ 41 := by
        have := congrArg List.length hd.out
        have h2 := mtsFrom_len n 41
        unfold mts at this
        rw [List.length_append] at this
        omega
      have hdv : Kept (a / 2 ^ h = n / 2 ^ (h + 1) * 2) := ⟨by rw [ha.out]; exact hdiv⟩
      have hai : ((a : Int) / 2 ^ h) = ((a / 2 ^ h : Nat) : Int) := intDiv a h
      have K1 : Kept (m - P = n % 2 ^ h) := ⟨by rw [hm.out, ← hP.out]; omega⟩
      have K2 : Kept (a + P = n - n % 2 ^ h) := ⟨by have := K1.out; have := Nat.mod_le n (2 ^ h); omega⟩
      have K3 : Kept (mts n = (done ++ [(h, a / 2 ^ h)]) ++ mtsFrom n h) := ⟨by rw [hd.out, hmts, hdv.out, List.append_assoc]; rfl⟩
      clear hlog hmts hsum hdiv
      generalize a / 2 ^ h = q at *
      go_wp2_with (first
        | (go_at_call 123; refine (log_any _ _ (by omega) (by omega)).mono ?_; rintro e w1 ⟨rfl, rfl⟩; rw [Int.toNat_natCast, hlog'.out])
        | (at_builtin; refine append_one w.heap.size rfl _ _ 54 45 (.agg #[.int .i64 0, .int .u64 0]) 2 16 rfl (by kernel_rfl) infoBlock rfl (by decide) (by decide) A c done.length (bks done) (bcells h q) rfl rfl rfl (bks_one h q ▸ bks_oneCell [(h, q)]) hO hs.size (by omega) ?_; intro A1 c1 w1 hO1 hk1 hA1))
      go_roundw
      case rel =>
        refine ⟨h, m - P, a + P, c1, A1, done ++ [(h, q)], by omega, by rw [List.length_append]; rfl, by congr 1; omega, by congr 1, K1, K2, K3, ?_, hs.then hk1 fun k hk hA => ?_⟩
        · rw [List.length_append, bks_append, bks_one]; exact hO1
        · have := (hO.inA hA).1; omega
      case measure => simp [intOf]; omega
    · obtain rfl : m = 0 := by omega
      have hfin : Kept (mts n = done) := ⟨by rw [hd.out, mtsFrom_zero n j hm.out.symm, List.append_nil]⟩
      go_wp2_with fail
      go_ret2
      exact ⟨A, c, by rw [hfin.out]; rfl, by rw [hfin.out]; exact hO, hs⟩
end Go.Proofs.Ytkokagbmmlngjaa
