/- Trees over parts of a list: the plain law behind package plain. -/
import Derived.Test.YtkokagbmmlngjaaForest
import Derived.Test.YtkokagbmmlngjaaFilter
namespace Go.Proofs.Ytkokagbmmlngjaa
set_option maxRecDepth 100000

theorem tree_shift (k : Int) : ∀ h (its : Nat → ByteArray) j, tree k its h j = tree k (fun i => its (j * 2 ^ h + i)) h 0 := by
  intro h
  induction h with
  | zero => intro its j; simp [tree]
  | succ h ih =>
    intro its j
    have e1 : 2 * j * 2 ^ h = j * 2 ^ (h + 1) := by rw [Nat.pow_succ, Nat.mul_comm (2 ^ h) 2, ← Nat.mul_assoc, Nat.mul_comm j 2]
    have e2 : (2 * j + 1) * 2 ^ h = j * 2 ^ (h + 1) + 2 ^ h := by rw [Nat.succ_mul, e1]
    rw [tree, tree, ih its (2 * j), ih its (2 * j + 1), ih (fun i => its (j * 2 ^ (h + 1) + i)) (2 * 0), ih (fun i => its (j * 2 ^ (h + 1) + i)) (2 * 0 + 1), e1, e2]
    simp only [Nat.mul_zero, Nat.zero_mul, Nat.zero_add, Nat.one_mul, Nat.add_assoc]

/-- the digest of a list of 2^h items -/
def treeL (k : Int) (h : Nat) (xs : List ByteArray) : ByteArray := tree k (itsOf xs) h 0

theorem itsOf_take (xs : List ByteArray) (m i : Nat) (h : i < m) : itsOf (xs.take m) i = itsOf xs i := by
  unfold itsOf
  rw [List.getD_eq_getElem?_getD, List.getD_eq_getElem?_getD, List.getElem?_take, if_pos h]
theorem itsOf_drop (xs : List ByteArray) (m i : Nat) : itsOf (xs.drop m) i = itsOf xs (m + i) := by
  unfold itsOf
  rw [List.getD_eq_getElem?_getD, List.getD_eq_getElem?_getD, List.getElem?_drop]

theorem treeL_zero (k : Int) (xs : List ByteArray) : treeL k 0 xs = hleaf k (itsOf xs 0) := rfl
theorem treeL_succ (k : Int) (h : Nat) (xs : List ByteArray) : treeL k (h + 1) xs = hnode k (treeL k h (xs.take (2 ^ h))) (treeL k h (xs.drop (2 ^ h))) := by
  unfold treeL
  rw [tree]
  congr 1
  · exact tree_congr k _ _ (2 ^ h) (fun i hi => (itsOf_take xs _ i hi).symm) h (2 * 0) (by simp)
  · rw [tree_shift k h (itsOf xs) (2 * 0 + 1)]
    congr 1
    funext i
    rw [itsOf_drop, Nat.mul_zero, Nat.zero_add, Nat.one_mul]

/-- a block's digest is that of its items -/
theorem tree_part (k : Int) (xs : List ByteArray) (h j : Nat) : tree k (itsOf xs) h j = treeL k h ((xs.drop (j * 2 ^ h)).take (2 ^ h)) := by
  rw [tree_shift]
  unfold treeL
  refine tree_congr k _ _ (2 ^ h) (fun i hi => ?_) h 0 (by simp)
  rw [itsOf_take _ _ _ hi, itsOf_drop]

theorem block_within (n h j : Nat) : (j + 1) * 2 ^ h ≤ n ↔ j < n / 2 ^ h := by
  rw [Nat.lt_iff_add_one_le, Nat.le_div_iff_mul_le (Nat.two_pow_pos h)]

theorem fdig_nat (k : Int) (its : Nat → ByteArray) (n h j : Nat) : fdig k its n ((h : Int), (j : Int)) = if j < n / 2 ^ h then some (tree k its h j) else none := by
  unfold fdig inF
  simp only [Int.toNat_natCast, Int.natCast_nonneg, true_and, block_within]

/-- the peaks so far: what the greatest mountain of what is left is -/
theorem peaks_next (k : Int) (xs : List ByteArray) (j : Nat) (hj : j ≤ 64) (hpos : 0 < xs.length % 2 ^ j) : ∃ h, h < j ∧ 2 ^ h ≤ xs.length % 2 ^ j ∧ xs.length % 2 ^ j < 2 ^ (h + 1) ∧
    xs.length % 2 ^ h + 2 ^ h = xs.length % 2 ^ j ∧
    (mtsFrom xs.length j).map (fun b => tree k (itsOf xs) b.1 b.2) = treeL k h ((xs.drop (xs.length - xs.length % 2 ^ j)).take (2 ^ h)) :: (mtsFrom xs.length h).map (fun b => tree k (itsOf xs) b.1 b.2) := by
  obtain ⟨h, hhj, _, hm, hsum, hdiv⟩ := top_bit xs.length j hj hpos
  have hlt := Nat.mod_lt xs.length (Nat.two_pow_pos h)
  have e2 : 2 ^ (h + 1) = 2 ^ h * 2 := Nat.pow_succ 2 h
  refine ⟨h, hhj, by omega, by omega, hsum, ?_⟩
  rw [hm, List.map_cons, ← hdiv, tree_part]
  congr 4
  have hd : 2 ^ h ∣ xs.length - xs.length % 2 ^ j := by
    have h1 : 2 ^ j ∣ xs.length - xs.length % 2 ^ j := Nat.dvd_sub_mod xs.length
    exact Nat.dvd_trans (Nat.pow_dvd_pow 2 (Nat.le_of_lt hhj)) h1
  exact Nat.div_mul_cancel hd
end Go.Proofs.Ytkokagbmmlngjaa
