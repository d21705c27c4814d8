/- The forest as plain functions: trees over items, which blocks there are, in which order they come. -/
import Derived.Test.YtkokagbmmlngjaaMap
namespace Go.Proofs.Ytkokagbmmlngjaa
set_option maxRecDepth 100000

def tree (k : Int) (its : Nat → ByteArray) : Nat → Nat → ByteArray
  | 0, j => hleaf k (its j)
  | h + 1, j => hnode k (tree k its h (2 * j)) (tree k its h (2 * j + 1))

theorem trailFrom_spec (m : Nat) : ∀ d k, (∃ r, trailFrom m d k = r ∧ k ≤ r ∧ r < k + d ∧ m / 2 ^ r % 2 = 1 ∧ ∀ j, k ≤ j → j < r → m / 2 ^ j % 2 = 0) ∨ (∀ j, k ≤ j → j < k + d → m / 2 ^ j % 2 = 0) := by
  intro d
  induction d with
  | zero => intro k; right; intro j h1 h2; omega
  | succ d ih =>
    intro k
    rw [trailFrom]
    by_cases hb : m / 2 ^ k % 2 = 1
    · left; rw [if_pos hb]; exact ⟨k, rfl, Nat.le_refl _, by omega, hb, fun j h1 h2 => by omega⟩
    · rw [if_neg hb]
      have h0 : m / 2 ^ k % 2 = 0 := by omega
      rcases ih (k + 1) with ⟨r, hr, h1, h2, h3, h4⟩ | h
      · left
        refine ⟨r, hr, by omega, by omega, h3, fun j h5 h6 => ?_⟩
        by_cases e : j = k
        · subst e; exact h0
        · exact h4 j (by omega) h6
      · right
        intro j h5 h6
        by_cases e : j = k
        · subst e; exact h0
        · exact h j (by omega) (by omega)

theorem mod_zero_iff (m h : Nat) : m % 2 ^ h = 0 ↔ ∀ j, j < h → m / 2 ^ j % 2 = 0 := by
  induction h with
  | zero => simp [Nat.mod_one]
  | succ h ih =>
    have e : m % 2 ^ (h + 1) = m % 2 ^ h + 2 ^ h * (m / 2 ^ h % 2) := by rw [Nat.pow_succ, Nat.mod_mul]
    constructor
    · intro h0
      have hp := Nat.two_pow_pos h
      have hb : m / 2 ^ h % 2 = 0 ∨ m / 2 ^ h % 2 = 1 := by omega
      have h1 : m % 2 ^ h = 0 := by omega
      have h2 : m / 2 ^ h % 2 = 0 := by
        rcases hb with hb | hb
        · exact hb
        · rw [hb] at e; omega
      intro j hj
      by_cases ej : j = h
      · subst ej; exact h2
      · exact ih.1 h1 j (by omega)
    · intro hj
      rw [e, hj h (by omega), ih.2 fun j h1 => hj j (by omega)]
      simp

theorem trail_iff (m h : Nat) (hm : 0 < m) (hm2 : m < 2 ^ 64) : h ≤ trail m ↔ m % 2 ^ h = 0 := by
  rw [mod_zero_iff]
  rcases trailFrom_spec m 64 0 with ⟨r, hr, _, h2, h3, h4⟩ | hz
  · have : trail m = r := hr
    rw [this]
    constructor
    · intro hle j hj
      exact h4 j (by omega) (by omega)
    · intro hj
      rcases Nat.lt_or_ge r h with hlt | hge
      · have := hj r hlt; omega
      · exact hge
  · have := (mod_zero_iff m 64).2 fun j hj => hz j (by omega) (by omega)
    rw [Nat.mod_eq_of_lt hm2] at this
    omega

theorem trail_lt (m : Nat) (hm : 0 < m) (hm2 : m < 2 ^ 64) (b : Nat) (hb : m < 2 ^ b) : trail m < b := by
  rcases Nat.lt_or_ge (trail m) b with h | h
  · exact h
  · have := (trail_iff m b hm hm2).1 h
    rw [Nat.mod_eq_of_lt hb] at this
    omega

/-- behind a block's last item there are so many -/
theorem ends_iff (n h j : Nat) (hn : n + 1 < 2 ^ 64) : (h ≤ trail (n + 1) ∧ j = n / 2 ^ h) ↔ (j + 1) * 2 ^ h = n + 1 := by
  have hp := Nat.two_pow_pos h
  rw [trail_iff (n + 1) h (by omega) hn]
  constructor
  · rintro ⟨h0, rfl⟩
    have h1 := Nat.div_add_mod (n + 1) (2 ^ h)
    rw [h0, Nat.add_zero] at h1
    have h2 : n / 2 ^ h + 1 = (n + 1) / 2 ^ h := by
      have hq : 0 < (n + 1) / 2 ^ h := by
        rcases Nat.eq_zero_or_pos ((n + 1) / 2 ^ h) with hz | hz
        · rw [hz] at h1; omega
        · exact hz
      obtain ⟨q, hq'⟩ : ∃ q, (n + 1) / 2 ^ h = q + 1 := ⟨_, (Nat.succ_pred_eq_of_pos hq).symm⟩
      rw [hq'] at h1 ⊢
      have : n / 2 ^ h = q := by
        rw [Nat.mul_succ] at h1
        exact Nat.div_eq_of_lt_le (by rw [Nat.mul_comm]; omega) (by rw [Nat.succ_mul, Nat.mul_comm]; omega)
      omega
    rw [h2, Nat.mul_comm]; exact h1
  · intro he
    refine ⟨by rw [← he, Nat.mul_mod_left], ?_⟩
    rw [Nat.succ_mul] at he
    exact (Nat.div_eq_of_lt_le (by omega) (by rw [Nat.succ_mul]; omega)).symm

/-- the blocks that come with item number i -/
def newBs (k : Int) (its : Nat → ByteArray) (i : Nat) : List (Bk × ByteArray) :=
  (List.range (trail (i + 1) + 1)).map fun (h : Nat) => (((h : Int), ((i / 2 ^ h : Nat) : Int)), tree k its h (i / 2 ^ h))
def entries (k : Int) (its : Nat → ByteArray) : Nat → List (Bk × ByteArray)
  | 0 => []
  | n + 1 => entries k its n ++ newBs k its n

theorem look_range (b : Bk) (g : Nat → Nat) (d : Nat → ByteArray) : ∀ m, look b ((List.range m).map fun (h : Nat) => (((h : Int), ((g h : Nat) : Int)), d h)) =
    if 0 ≤ b.1 ∧ b.1.toNat < m ∧ b.2 = g b.1.toNat then some (d b.1.toNat) else none := by
  intro m
  induction m with
  | zero => simp [look_nil]
  | succ m ih =>
    rw [List.range_succ, List.map_append, look_append, ih]
    simp only [List.map_cons, List.map_nil, look_cons, look_nil]
    obtain ⟨b1, b2⟩ := b
    by_cases h1 : 0 ≤ b1 ∧ b1.toNat < m ∧ b2 = g b1.toNat
    · rw [if_pos h1, if_pos (show 0 ≤ b1 ∧ b1.toNat < m + 1 ∧ b2 = ((g b1.toNat : Nat) : Int) from ⟨h1.1, by omega, h1.2.2⟩)]; rfl
    · rw [if_neg h1]
      by_cases h2 : (b1, b2) = ((m : Int), ((g m : Nat) : Int))
      · simp only [Prod.mk.injEq] at h2
        obtain ⟨rfl, rfl⟩ := h2
        simp
      · rw [if_neg h2, if_neg]
        · rfl
        · rintro ⟨h3, h4, h5⟩
          have h6 : ¬ b1.toNat < m := fun h => h1 ⟨h3, h, h5⟩
          apply h2
          have h7 : b1.toNat = m := by omega
          have h8 : b1 = m := by omega
          simp only at h5
          rw [h5, h7, h8]

/-- is a block there, behind n items? -/
abbrev inF (n : Nat) (b : Bk) : Prop := 0 ≤ b.1 ∧ 0 ≤ b.2 ∧ (b.2.toNat + 1) * 2 ^ b.1.toNat ≤ n
def fdig (k : Int) (its : Nat → ByteArray) (n : Nat) (b : Bk) : Option ByteArray := if inF n b then some (tree k its b.1.toNat b.2.toNat) else none

theorem look_new (k : Int) (its : Nat → ByteArray) (n : Nat) (hn : n + 1 < 2 ^ 64) (b : Bk) :
    look b (newBs k its n) = if 0 ≤ b.1 ∧ 0 ≤ b.2 ∧ (b.2.toNat + 1) * 2 ^ b.1.toNat = n + 1 then some (tree k its b.1.toNat b.2.toNat) else none := by
  unfold newBs
  rw [look_range b (fun h => n / 2 ^ h) (fun h => tree k its h (n / 2 ^ h))]
  have hi := ends_iff n b.1.toNat b.2.toNat hn
  by_cases h : 0 ≤ b.1 ∧ b.1.toNat < trail (n + 1) + 1 ∧ b.2 = ((n / 2 ^ b.1.toNat : Nat) : Int)
  · have h2 : b.2.toNat = n / 2 ^ b.1.toNat := by rw [h.2.2, Int.toNat_natCast]
    rw [if_pos h, if_pos ⟨h.1, by rw [h.2.2]; exact Int.natCast_nonneg _, hi.1 ⟨by omega, h2⟩⟩, h2]
  · rw [if_neg h, if_neg]
    rintro ⟨h1, h2, h3⟩
    have := hi.2 h3
    exact h ⟨h1, by omega, by omega⟩

theorem look_entries (k : Int) (its : Nat → ByteArray) (b : Bk) : ∀ n, n < 2 ^ 64 → look b (entries k its n) = fdig k its n b := by
  intro n
  induction n with
  | zero =>
    intro _
    rw [entries, look_nil, fdig, if_neg]
    rintro ⟨_, _, h⟩
    have := Nat.mul_pos (Nat.succ_pos b.2.toNat) (Nat.two_pow_pos b.1.toNat)
    rw [Nat.succ_eq_add_one] at this
    omega
  | succ n ih =>
    intro hn
    rw [entries, look_append, ih (by omega), look_new k its n hn]
    unfold fdig inF
    generalize (b.2.toNat + 1) * 2 ^ b.1.toNat = x
    generalize some (tree k its b.1.toNat b.2.toNat) = y
    by_cases h0 : 0 ≤ b.1 ∧ 0 ≤ b.2
    · simp only [h0.1, h0.2, true_and]
      by_cases h1 : x ≤ n
      · rw [if_pos h1, if_pos (show x ≤ n + 1 by omega), if_neg (show ¬ x = n + 1 by omega)]
        cases y <;> rfl
      · rw [if_neg h1]
        by_cases h2 : x = n + 1
        · rw [if_pos h2, if_pos (show x ≤ n + 1 by omega)]; rfl
        · rw [if_neg h2, if_neg (show ¬ x ≤ n + 1 by omega)]; rfl
    · rw [if_neg (fun h => h0 ⟨h.1, h.2.1⟩), if_neg (fun h => h0 ⟨h.1, h.2.1⟩), if_neg (fun h => h0 ⟨h.1, h.2.1⟩)]; rfl

theorem tree_congr (k : Int) (f g : Nat → ByteArray) (n : Nat) (h : ∀ i, i < n → f i = g i) : ∀ a j, (j + 1) * 2 ^ a ≤ n → tree k f a j = tree k g a j := by
  intro a
  induction a with
  | zero => intro j hj; rw [tree, tree, h j (by simp at hj; omega)]
  | succ a ih =>
    intro j hj
    have e : (j + 1) * 2 ^ (a + 1) = (2 * j + 1 + 1) * 2 ^ a := by rw [Nat.pow_succ, Nat.mul_comm (2 ^ a) 2, ← Nat.mul_assoc]; congr 1; omega
    have h2 : (2 * j + 1) * 2 ^ a ≤ (2 * j + 1 + 1) * 2 ^ a := Nat.mul_le_mul_right _ (by omega)
    rw [tree, tree, ih (2 * j) (by omega), ih (2 * j + 1) (by omega)]

theorem tree_size (k : Int) (its : Nat → ByteArray) (h j : Nat) : (tree k its h j).size = clampK k := by
  cases h <;> exact hof_size _ _

theorem newBs_take (k : Int) (its : Nat → ByteArray) (n h : Nat) (hh : h ≤ trail (n + 1)) :
    (newBs k its n).take (h + 1) = (List.range (h + 1)).map fun (h : Nat) => (((h : Int), ((n / 2 ^ h : Nat) : Int)), tree k its h (n / 2 ^ h)) := by
  unfold newBs
  rw [← List.map_take]
  congr 1
  apply List.ext_getElem
  · simp; omega
  · intro i h1 h2; simp

theorem newBs_len (k : Int) (its : Nat → ByteArray) (n : Nat) : (newBs k its n).length = trail (n + 1) + 1 := by simp [newBs]

/-- what one round of Append leans on -/
theorem app_step (k : Int) (its : Nat → ByteArray) (n h : Nat) (hn : n + 1 < 2 ^ 64) (hh : h < trail (n + 1)) :
    ∃ q, n / 2 ^ h = 2 * q + 1 ∧ n / 2 ^ (h + 1) = q ∧ look ((h : Int), ((2 * q : Nat) : Int)) (entries k its n ++ (newBs k its n).take (h + 1)) = some (tree k its h (2 * q)) ∧
      look (((h + 1 : Nat) : Int), (q : Int)) (entries k its n ++ (newBs k its n).take (h + 1)) = none ∧
      (newBs k its n).take (h + 1 + 1) = (newBs k its n).take (h + 1) ++ [((((h + 1 : Nat) : Int), (q : Int)), tree k its (h + 1) q)] ∧ q < n + 1 := by
  obtain ⟨q, hq⟩ : ∃ q, n / 2 ^ (h + 1) = q := ⟨_, rfl⟩
  have he := (ends_iff n (h + 1) q hn).1 ⟨hh, hq.symm⟩
  have hp := Nat.two_pow_pos h
  have e2 : (q + 1) * 2 ^ (h + 1) = (2 * q + 1 + 1) * 2 ^ h := by rw [Nat.pow_succ, Nat.mul_comm (2 ^ h) 2, ← Nat.mul_assoc]; congr 1; omega
  have h1 := (ends_iff n h (2 * q + 1) hn).2 (by rw [← e2]; exact he)
  refine ⟨q, h1.2.symm, hq, ?_, ?_, ?_, ?_⟩
  · have hle : (2 * q + 1) * 2 ^ h ≤ n := by
      have : (2 * q + 1 + 1) * 2 ^ h = (2 * q + 1) * 2 ^ h + 2 ^ h := by rw [Nat.succ_mul]
      omega
    rw [look_append, look_entries k its _ n (by omega), fdig, if_pos]
    · rfl
    · exact ⟨Int.natCast_nonneg _, Int.natCast_nonneg _, by simp only [Int.toNat_natCast]; exact hle⟩
  · rw [look_append, look_entries k its _ n (by omega), fdig, if_neg, newBs_take k its n h (by omega), look_range _ (fun h => n / 2 ^ h) (fun h => tree k its h (n / 2 ^ h)), if_neg]
    · rfl
    · rintro ⟨_, h2, _⟩
      simp only [Int.toNat_natCast] at h2
      omega
    · rintro ⟨_, _, h2⟩
      simp only [Int.toNat_natCast] at h2
      omega
  · rw [newBs_take k its n (h + 1) (by omega), newBs_take k its n h (by omega), List.range_succ (n := h + 1), List.map_append]
    show _ ++ [((((h + 1 : Nat) : Int), ((n / 2 ^ (h + 1) : Nat) : Int)), tree k its (h + 1) (n / 2 ^ (h + 1)))] = _
    rw [hq]
  · have := Nat.le_mul_of_pos_right (q + 1) (Nat.two_pow_pos (h + 1))
    omega

end Go.Proofs.Ytkokagbmmlngjaa
