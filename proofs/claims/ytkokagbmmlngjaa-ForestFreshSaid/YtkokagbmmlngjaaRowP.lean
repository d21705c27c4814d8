/- Places and entries of the forest: the plain law behind ForestRow. -/
import Derived.Test.YtkokagbmmlngjaaForP
namespace Go.Proofs.Ytkokagbmmlngjaa
set_option maxRecDepth 100000

/-- the blocks within a block, in the order of their places -/
def nodesIn : Nat → Nat → List (Nat × Nat)
  | 0, j => [(0, j)]
  | h + 1, j => nodesIn h (2 * j) ++ nodesIn h (2 * j + 1) ++ [(h + 1, j)]

theorem nodesIn_len (h : Nat) : ∀ j, (nodesIn h j).length + 1 = 2 ^ (h + 1) := by
  induction h with
  | zero => intro j; rfl
  | succ h ih =>
    intro j
    have h1 := ih (2 * j)
    have h2 := ih (2 * j + 1)
    have e : 2 ^ (h + 1 + 1) = 2 ^ (h + 1) * 2 := Nat.pow_succ 2 (h + 1)
    simp only [nodesIn, List.length_append, List.length_cons, List.length_nil]
    omega

theorem descend_at (p : Nat) : ∀ h k at_ lo, at_ + 2 = lo + 2 ^ (h + 1) → lo ≤ p → p ≤ at_ → (nodesIn h k)[p - lo]? = some (descend p h k at_) := by
  intro h
  induction h with
  | zero =>
    intro k at_ lo he h1 h2
    have h3 : p - lo = 0 := by omega
    rw [h3]; rfl
  | succ h ih =>
    intro k at_ lo he h1 h2
    have l1 := nodesIn_len h (2 * k)
    have l2 := nodesIn_len h (2 * k + 1)
    have e : 2 ^ (h + 1 + 1) = 2 ^ (h + 1) * 2 := Nat.pow_succ 2 (h + 1)
    rw [descend, nodesIn]
    by_cases hp : at_ = p
    · rw [if_pos hp, List.getElem?_append_right (by simp only [List.length_append]; omega)]
      have : p - lo - (nodesIn h (2 * k) ++ nodesIn h (2 * k + 1)).length = 0 := by simp only [List.length_append]; omega
      rw [this]; rfl
    · rw [if_neg hp, List.getElem?_append_left (by simp only [List.length_append]; omega)]
      by_cases hl : p ≤ at_ - 2 ^ (h + 1)
      · rw [if_pos hl, List.getElem?_append_left (by omega)]
        exact ih (2 * k) (at_ - 2 ^ (h + 1)) lo (by omega) h1 hl
      · rw [if_neg hl, List.getElem?_append_right (by omega)]
        have h3 := ih (2 * k + 1) (at_ - 1) (lo + 2 ^ (h + 1) - 1) (by omega) (by omega) (by omega)
        rw [← h3]
        congr 1
        omega

def keysOf (i : Nat) : List (Nat × Nat) := (List.range (trail (i + 1) + 1)).map fun g => (g, i / 2 ^ g)
def keysN : Nat → List (Nat × Nat)
  | 0 => []
  | n + 1 => keysN n ++ keysOf n
def seg (h i : Nat) : List (Nat × Nat) := (List.range (h + 1)).map fun g => (g, i / 2 ^ g)

theorem keysN_prefix (n : Nat) : ∀ d, ∃ r, keysN (n + d) = keysN n ++ r := by
  intro d
  induction d with
  | zero => exact ⟨[], by simp⟩
  | succ d ih =>
    obtain ⟨r, hr⟩ := ih
    exact ⟨r ++ keysOf (n + d), by rw [← Nat.add_assoc, keysN, hr, List.append_assoc]⟩

theorem keysN_block : ∀ h K, (K + 1) * 2 ^ h < 2 ^ 64 → keysN (K * 2 ^ h) ++ nodesIn h K = keysN ((K + 1) * 2 ^ h - 1) ++ seg h ((K + 1) * 2 ^ h - 1) := by
  intro h
  induction h with
  | zero =>
    intro K _
    simp [nodesIn, seg]
  | succ h ih =>
    intro K hb
    have hp := Nat.two_pow_pos h
    have e0 : K * 2 ^ (h + 1) = 2 * K * 2 ^ h := by rw [Nat.pow_succ, Nat.mul_comm (2 ^ h) 2, ← Nat.mul_assoc, Nat.mul_comm K 2]
    have e1 : (K + 1) * 2 ^ (h + 1) = (2 * K + 1 + 1) * 2 ^ h := by rw [Nat.pow_succ, Nat.mul_comm (2 ^ h) 2, ← Nat.mul_assoc]; congr 1; omega
    have e2 : (2 * K + 1 + 1) * 2 ^ h = (2 * K + 1) * 2 ^ h + 2 ^ h := Nat.succ_mul _ _
    have e3 : (2 * K + 1) * 2 ^ h = 2 * K * 2 ^ h + 2 ^ h := Nat.succ_mul _ _
    have i1 := ih (2 * K) (by omega)
    have i2 := ih (2 * K + 1) (by omega)
    have t1 : trail ((2 * K + 1) * 2 ^ h) = h := by
      have a1 := (trail_iff ((2 * K + 1) * 2 ^ h) h (by omega) (by omega)).2 (Nat.mul_mod_left _ _)
      rcases Nat.lt_or_ge h (trail ((2 * K + 1) * 2 ^ h)) with h5 | h5
      · have a2 := (trail_iff ((2 * K + 1) * 2 ^ h) (h + 1) (by omega) (by omega)).1 h5
        rw [Nat.pow_succ, Nat.mul_comm (2 ^ h) 2, Nat.mul_mod_mul_right] at a2
        have a3 : (2 * K + 1) % 2 = 1 := by omega
        rw [a3] at a2
        omega
      · omega
    have s1 : keysN ((2 * K + 1) * 2 ^ h - 1) ++ seg h ((2 * K + 1) * 2 ^ h - 1) = keysN ((2 * K + 1) * 2 ^ h) := by
      obtain ⟨m, hm⟩ : ∃ m, (2 * K + 1) * 2 ^ h = m + 1 := ⟨(2 * K + 1) * 2 ^ h - 1, by omega⟩
      rw [hm] at t1 ⊢
      show keysN m ++ seg h m = keysN m ++ keysOf m
      unfold keysOf seg
      rw [t1]
    rw [nodesIn, ← List.append_assoc, ← List.append_assoc, e0, i1, s1, i2, e1, List.append_assoc]
    congr 1
    unfold seg
    rw [List.range_succ (n := h + 1), List.map_append]
    congr 1
    have e4 : ((2 * K + 1 + 1) * 2 ^ h - 1) / 2 ^ (h + 1) = K := by
      rw [← e1]
      have hq := Nat.two_pow_pos (h + 1)
      have e5 : (K + 1) * 2 ^ (h + 1) = K * 2 ^ (h + 1) + 2 ^ (h + 1) := Nat.succ_mul _ _
      exact Nat.div_eq_of_lt_le (by omega) (by rw [e5]; omega)
    simp only [List.map_cons, List.map_nil, e4]

theorem keysN_whole : keysN (2 ^ 40) = nodesIn 40 0 := by
  have h := keysN_block 40 0 (by decide)
  rw [Nat.zero_mul, Nat.zero_add, Nat.one_mul] at h
  have e : keysN 0 ++ nodesIn 40 0 = nodesIn 40 0 := rfl
  rw [e] at h
  rw [h]
  have t : trail (2 ^ 40) = 40 := by decide
  obtain ⟨m, hm⟩ : ∃ m, 2 ^ 40 = m + 1 := ⟨2 ^ 40 - 1, rfl⟩
  rw [hm] at t ⊢
  show keysN m ++ keysOf m = keysN m ++ seg 40 m
  unfold keysOf seg
  rw [t]

theorem keysN_at (n p : Nat) (hn : n ≤ 2 ^ 40) (hp : p < (keysN n).length) : (keysN n)[p]? = some (blockAt p) := by
  obtain ⟨r, hr⟩ := keysN_prefix n (2 ^ 40 - n)
  rw [show n + (2 ^ 40 - n) = 2 ^ 40 by omega, keysN_whole] at hr
  have hl := nodesIn_len 40 0
  rw [hr, List.length_append] at hl
  have hd := descend_at p 40 0 2199023255550 0 (by decide) (Nat.zero_le _) (by omega)
  rw [Nat.sub_zero, hr, List.getElem?_append_left hp] at hd
  exact hd

theorem keysN_in (n : Nat) (hn : n < 2 ^ 64) : ∀ b ∈ keysN n, (b.2 + 1) * 2 ^ b.1 ≤ n := by
  induction n with
  | zero => intro b hb; simp [keysN] at hb
  | succ n ih =>
    intro b hb
    rcases List.mem_append.1 hb with hb | hb
    · have := ih (by omega) b hb; omega
    · obtain ⟨g, hg, rfl⟩ := List.mem_map.1 hb
      have := (ends_iff n g (n / 2 ^ g) hn).1 ⟨by have := List.mem_range.1 hg; omega, rfl⟩
      exact Nat.le_of_eq this

def entryOf (k : Int) (its : Nat → ByteArray) (b : Nat × Nat) : Bk × ByteArray := (((b.1 : Int), (b.2 : Int)), tree k its b.1 b.2)
theorem entries_keys (k : Int) (its : Nat → ByteArray) (n : Nat) : entries k its n = (keysN n).map (entryOf k its) := by
  induction n with
  | zero => rfl
  | succ n ih =>
    rw [entries, keysN, List.map_append, ih]
    congr 1
    unfold newBs keysOf
    rw [List.map_map]
    rfl

theorem sumBits_shift (n : Nat) : ∀ k, sumBits n (k + 1) = n % 2 + sumBits (n / 2) k := by
  intro k
  induction k with
  | zero => simp [sumBits]
  | succ k ih =>
    rw [sumBits, ih, sumBits, Nat.div_div_eq_div_mul, ← Nat.pow_succ', Nat.add_assoc]

theorem ones_half (n : Nat) (h : n < 2 ^ 64) : ones n = n % 2 + ones (n / 2) := by
  have e : sumBits (n / 2) 64 = sumBits (n / 2) 63 + n / 2 / 2 ^ 63 % 2 := rfl
  have e2 : n / 2 / 2 ^ 63 = 0 := Nat.div_eq_of_lt (by omega)
  unfold ones
  rw [e, e2, sumBits_shift n 63]
  rfl

theorem trail_odd (m : Nat) (h : 2 * m + 1 < 2 ^ 64) : trail (2 * m + 1) = 0 := by
  rcases Nat.eq_zero_or_pos (trail (2 * m + 1)) with h0 | h0
  · exact h0
  · have := (trail_iff (2 * m + 1) 1 (by omega) h).1 h0
    omega

theorem trail_even (m : Nat) (h0 : 0 < m) (h : 2 * m < 2 ^ 64) : trail (2 * m) = trail m + 1 := by
  have key : ∀ j, j + 1 ≤ trail (2 * m) ↔ j ≤ trail m := by
    intro j
    rw [trail_iff (2 * m) (j + 1) (by omega) h, trail_iff m j h0 (by omega), Nat.pow_succ', Nat.mul_mod_mul_left]
    omega
  have h1 := (key (trail m)).2 (Nat.le_refl _)
  rcases Nat.lt_or_ge (trail m + 1) (trail (2 * m)) with h2 | h2
  · have := (key (trail m + 1)).1 h2
    omega
  · omega

theorem ones_step (n : Nat) : n + 1 < 2 ^ 64 → ones n + 1 = ones (n + 1) + trail (n + 1) := by
  induction n using Nat.strongRecOn with
  | _ n ih =>
    intro h
    rcases Nat.mod_two_eq_zero_or_one n with h2 | h2
    · obtain ⟨m, rfl⟩ : ∃ m, n = 2 * m := ⟨n / 2, by omega⟩
      rw [trail_odd m h, ones_half (2 * m) (by omega), ones_half (2 * m + 1) h, show (2 * m + 1) / 2 = m by omega, show 2 * m / 2 = m by omega]
      omega
    · obtain ⟨m, rfl⟩ : ∃ m, n = 2 * m + 1 := ⟨n / 2, by omega⟩
      have e : 2 * m + 1 + 1 = 2 * (m + 1) := by omega
      rw [e, trail_even (m + 1) (by omega) (by omega), ones_half (2 * m + 1) (by omega), ones_half (2 * (m + 1)) (by omega), show (2 * m + 1) / 2 = m by omega, show 2 * (m + 1) / 2 = m + 1 by omega]
      have := ih m (by omega) (by omega)
      omega

theorem nodesOf_succ (n : Nat) (h : n + 1 < 2 ^ 64) : nodesOf (n + 1) = nodesOf n + (trail (n + 1) + 1) := by
  have h1 := ones_step n h
  have h2 : ones n ≤ n := sumBits_le_self n 64
  have h3 : ones (n + 1) ≤ n + 1 := sumBits_le_self (n + 1) 64
  unfold nodesOf
  omega

theorem keysN_len (n : Nat) (h : n < 2 ^ 64) : (keysN n).length = nodesOf n := by
  induction n with
  | zero => rfl
  | succ n ih => rw [keysN, List.length_append, ih (by omega), nodesOf_succ n h]; simp [keysOf]

theorem entries_len (k : Int) (its : Nat → ByteArray) (n : Nat) (h : n < 2 ^ 64) : (entries k its n).length = nodesOf n := by
  rw [entries_keys, List.length_map, keysN_len n h]

/-- the digest that stands at a place is that of the place's block -/
theorem entry_at (k : Int) (its : Nat → ByteArray) (n p : Nat) (hn : n ≤ 2 ^ 40) (hp : p < nodesOf n) :
    ((blockAt p).2 + 1) * 2 ^ (blockAt p).1 ≤ n ∧ ((entries k its n).map (·.2))[p]? = some (tree k its (blockAt p).1 (blockAt p).2) := by
  have hlen := keysN_len n (by omega)
  have h1 := keysN_at n p hn (by rw [hlen]; exact hp)
  refine ⟨keysN_in n (by omega) _ (List.mem_of_getElem? h1), ?_⟩
  rw [entries_keys, List.map_map, List.getElem?_map, h1]
  rfl

theorem half_in (n h j : Nat) (hh : (j + 1) * 2 ^ (h + 1) ≤ n) : (2 * j + 1) * 2 ^ h ≤ n ∧ (2 * j + 1 + 1) * 2 ^ h ≤ n := by
  have e : (j + 1) * 2 ^ (h + 1) = (2 * j + 1 + 1) * 2 ^ h := by rw [Nat.pow_succ, Nat.mul_comm (2 ^ h) 2, ← Nat.mul_assoc]; congr 1; omega
  have e2 : (2 * j + 1 + 1) * 2 ^ h = (2 * j + 1) * 2 ^ h + 2 ^ h := Nat.succ_mul _ _
  rw [e] at hh
  rw [e2] at hh ⊢
  generalize (2 * j + 1) * 2 ^ h = x at *
  generalize 2 ^ h = y at *
  omega

theorem blockAt_le (n p : Nat) (hn : n ≤ 2 ^ 40) (hp : p < nodesOf n) : (blockAt p).1 ≤ 40 := by
  have h1 := (entry_at 0 (fun _ => ByteArray.empty) n p hn hp).1
  have h2 : 2 ^ (blockAt p).1 ≤ ((blockAt p).2 + 1) * 2 ^ (blockAt p).1 := Nat.le_mul_of_pos_left _ (Nat.succ_pos _)
  have h3 : 2 ^ (blockAt p).1 ≤ 2 ^ 40 := by omega
  exact (Nat.pow_le_pow_iff_right (by decide)).1 h3
end Go.Proofs.Ytkokagbmmlngjaa
