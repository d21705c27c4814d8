/- SHA-256 as plain functions on lists of numbers, in the walk's own words. No program's text. -/
import Derived.Test.YtkokagbmmlngjaaBase
namespace Go.Proofs.Ytkokagbmmlngjaa
open Go.RowKit

def gi (l : List Int) (i : Nat) : Int := l.getD i 0
def b8 (l : List Int) : List Value := l.map (.int .u8 ·)
def w32 (l : List Int) : List Value := l.map (.int .u32 ·)

theorem gi_some (l : List Int) (i : Nat) (h : i < l.length) : l[i]? = some (gi l i) := by
  simp [gi, List.getD_eq_getElem?_getD, List.getElem?_eq_getElem h]
theorem w32_at (l : List Int) (i : Nat) (h : i < l.length) : (w32 l)[i]? = some (.int .u32 (gi l i)) := by
  simp [w32, gi_some l i h]
theorem b8_at (l : List Int) (i : Nat) (h : i < l.length) : (b8 l)[i]? = some (.int .u8 (gi l i)) := by
  simp [b8, gi_some l i h]
theorem w32_set (l : List Int) (i : Nat) (x : Int) : (w32 l).set i (.int .u32 x) = w32 (l.set i x) := by simp [w32, List.map_set]
theorem b8_set (l : List Int) (i : Nat) (x : Int) : (b8 l).set i (.int .u8 x) = b8 (l.set i x) := by simp [b8, List.map_set]
theorem gi_set_same (l : List Int) (i : Nat) (x : Int) (h : i < l.length) : gi (l.set i x) i = x := by
  simp [gi, List.getD_eq_getElem?_getD, h]
theorem gi_set_ne (l : List Int) (i j : Nat) (x : Int) (h : i ≠ j) : gi (l.set i x) j = gi l j := by
  simp [gi, List.getD_eq_getElem?_getD, List.getElem?_set, h]

/-- a word turned right by -k -/
def rotk (x k : Int) : Int := bits .or .u32 (x * 2 ^ (32 + k).toNat % 4294967296) (x / 2 ^ (-k).toNat)

theorem and31 (k : Int) (h : -32 < k) (h' : k < 0) : bits .and .u64 (IntKind.u64.wrap k) 31 = 32 + k := by
  have : ∀ m : Fin 31, bits .and .u64 (IntKind.u64.wrap (-((m.val : Int) + 1))) 31 = 32 + (-((m.val : Int) + 1)) := by decide +kernel
  have := this ⟨(-k - 1).toNat, by omega⟩
  simp only at this
  rw [show (-(((-k - 1).toNat : Int) + 1)) = k by omega] at this
  exact this

/-- the first j bytes of word t -/
def wordN (bs : List Int) (t : Nat) : Nat → Int
  | 0 => 0
  | j + 1 => bits .or .u32 (wordN bs t j * 256 % 4294967296) (gi bs (4 * t + j) % 4294967296)

def ph1 (bs : List Int) : Nat → List Int
  | 0 => List.replicate 64 0
  | t + 1 => (ph1 bs t).set t (wordN bs t 4)

theorem ph1_len (bs : List Int) (t : Nat) : (ph1 bs t).length = 64 := by
  induction t with
  | zero => simp [ph1]
  | succ t ih => simp [ph1, ih]

theorem ph1_at (bs : List Int) (t : Nat) : ∀ i, t ≤ i → i < 64 → gi (ph1 bs t) i = 0 := by
  induction t with
  | zero =>
    intro i _ hi
    unfold ph1 gi
    rw [List.getD_eq_getElem?_getD, List.getElem?_replicate, if_pos hi]
    rfl
  | succ t ih =>
    intro i h1 h2
    rw [ph1, gi_set_ne _ _ _ _ (by omega)]
    exact ih i (by omega) h2

def sig0 (x : Int) : Int := bits .xor .u32 (bits .xor .u32 (rotk x (-7)) (rotk x (-18))) (x / 8)
def sig1 (x : Int) : Int := bits .xor .u32 (bits .xor .u32 (rotk x (-17)) (rotk x (-19))) (x / 1024)
def sched (ws : List Int) (t : Nat) : Int :=
  (gi ws (t - 16) + sig0 (gi ws (t - 15)) + gi ws (t - 7) + sig1 (gi ws (t - 2))) % 4294967296

def ph2 (bs : List Int) : Nat → List Int
  | 0 => ph1 bs 16
  | d + 1 => (ph2 bs d).set (16 + d) (sched (ph2 bs d) (16 + d))

theorem ph2_len (bs : List Int) (t : Nat) : (ph2 bs t).length = 64 := by
  induction t with
  | zero => simp [ph2, ph1_len]
  | succ t ih => simp [ph2, ih]

def not32 (x : Int) : Int := bits .xor .u32 (if IntKind.u32.signed = true then -1 else IntKind.u32.max) x
def one (s : List Int) (k w : Int) : Int :=
  (gi s 7 + bits .xor .u32 (bits .xor .u32 (rotk (gi s 4) (-6)) (rotk (gi s 4) (-11))) (rotk (gi s 4) (-25))
    + bits .xor .u32 (bits .and .u32 (gi s 4) (gi s 5)) (bits .and .u32 (not32 (gi s 4)) (gi s 6)) + k + w) % 4294967296
def two (s : List Int) : Int :=
  (bits .xor .u32 (bits .xor .u32 (rotk (gi s 0) (-2)) (rotk (gi s 0) (-13))) (rotk (gi s 0) (-22))
    + bits .xor .u32 (bits .xor .u32 (bits .and .u32 (gi s 0) (gi s 1)) (bits .and .u32 (gi s 0) (gi s 2))) (bits .and .u32 (gi s 1) (gi s 2))) % 4294967296
def stepR (s : List Int) (k w : Int) : List Int :=
  [(one s k w + two s) % 4294967296, gi s 0, gi s 1, gi s 2, (gi s 3 + one s k w) % 4294967296, gi s 4, gi s 5, gi s 6]

def rnd (st ks ws : List Int) : Nat → List Int
  | 0 => st
  | t + 1 => stepR (rnd st ks ws t) (gi ks t) (gi ws t)

theorem rnd_len (st ks ws : List Int) (h : st.length = 8) (t : Nat) : (rnd st ks ws t).length = 8 := by
  cases t with
  | zero => exact h
  | succ t => rfl

/-- the first n words of the sum of the state and what the rounds gave -/
def addN (st v : List Int) : Nat → List Int
  | 0 => st
  | n + 1 => (addN st v n).set n ((gi (addN st v n) n + gi v n) % 4294967296)

theorem addN_len (st v : List Int) (h : st.length = 8) (n : Nat) : (addN st v n).length = 8 := by
  induction n with
  | zero => exact h
  | succ n ih => simp [addN, ih]

/-- the state behind a full block -/
def comp (ks st bl : List Int) : List Int := addN st (rnd st ks (ph2 bl 48) 64) 8
theorem comp_len (ks st bl : List Int) (h : st.length = 8) : (comp ks st bl).length = 8 := addN_len _ _ h _

def hashCells (st bl : List Int) (fill size : Int) : List Value := w32 st ++ b8 bl ++ [.int .i64 fill, .int .u64 size]

theorem hashCells_len (st bl : List Int) (fill size : Int) (hst : st.length = 8) (hbl : bl.length = 64) : (hashCells st bl fill size).length = 74 := by simp [hashCells, w32, b8, hst, hbl]
theorem hashCells_st (st bl : List Int) (fill size : Int) (hst : st.length = 8) (i : Nat) (hi : i < 8) : (hashCells st bl fill size)[i]? = some (.int .u32 (gi st i)) := by
  unfold hashCells
  rw [List.append_assoc, List.getElem?_append_left (by simp [w32, hst]; omega)]
  exact w32_at st i (by omega)
theorem hashCells_bl (st bl : List Int) (fill size : Int) (hst : st.length = 8) (hbl : bl.length = 64) (i : Nat) (hi : i < 64) : (hashCells st bl fill size)[8 + i]? = some (.int .u8 (gi bl i)) := by
  unfold hashCells
  rw [List.append_assoc, List.getElem?_append_right (by simp [w32, hst])]
  rw [List.getElem?_append_left (by simp [w32, b8, hst, hbl]; omega)]
  have : 8 + i - (w32 st).length = i := by simp [w32, hst]
  rw [this]
  exact b8_at bl i (by omega)
theorem hashCells_fill (st bl : List Int) (fill size : Int) (hst : st.length = 8) (hbl : bl.length = 64) : (hashCells st bl fill size)[72]? = some (.int .i64 fill) := by
  unfold hashCells
  rw [List.getElem?_append_right (by simp [w32, b8, hst, hbl])]
  simp [w32, b8, hst, hbl]
theorem hashCells_size (st bl : List Int) (fill size : Int) (hst : st.length = 8) (hbl : bl.length = 64) : (hashCells st bl fill size)[73]? = some (.int .u64 size) := by
  unfold hashCells
  rw [List.getElem?_append_right (by simp [w32, b8, hst, hbl])]
  simp [w32, b8, hst, hbl]
theorem hashCells_setSt (st bl : List Int) (fill size : Int) (hst : st.length = 8) (i : Nat) (hi : i < 8) (x : Int) : (hashCells st bl fill size).set i (.int .u32 x) = hashCells (st.set i x) bl fill size := by
  unfold hashCells
  rw [List.append_assoc, List.set_append_left _ _ (by simp [w32, hst]; omega), w32_set, ← List.append_assoc]
theorem hashCells_setBl (st bl : List Int) (fill size : Int) (hst : st.length = 8) (hbl : bl.length = 64) (i : Nat) (hi : i < 64) (x : Int) : (hashCells st bl fill size).set (8 + i) (.int .u8 x) = hashCells st (bl.set i x) fill size := by
  unfold hashCells
  rw [List.append_assoc, List.set_append_right _ _ (by simp [w32, hst]), List.set_append_left _ _ (by simp [w32, b8, hst, hbl]; omega)]
  have : 8 + i - (w32 st).length = i := by simp [w32, hst]
  rw [this, b8_set, ← List.append_assoc]
theorem hashCells_setFill (st bl : List Int) (fill size : Int) (hst : st.length = 8) (hbl : bl.length = 64) (x : Int) : (hashCells st bl fill size).set 72 (.int .i64 x) = hashCells st bl x size := by
  unfold hashCells
  rw [List.set_append_right _ _ (by simp [w32, b8, hst, hbl])]
  simp [w32, b8, hst, hbl]
theorem hashCells_setSize (st bl : List Int) (fill size : Int) (hst : st.length = 8) (hbl : bl.length = 64) (x : Int) : (hashCells st bl fill size).set 73 (.int .u64 x) = hashCells st bl fill x := by
  unfold hashCells
  rw [List.set_append_right _ _ (by simp [w32, b8, hst, hbl])]
  simp [w32, b8, hst, hbl]

/-! ### the sum of a list of bytes -/
def shaInit : List Int := [1779033703, 3144134277, 1013904242, 2773480762, 1359893119, 2600822924, 528734635, 1541459225]
def shaK : List Int := [1116352408, 1899447441, 3049323471, 3921009573, 961987163, 1508970993, 2453635748, 2870763221, 3624381080, 310598401, 607225278, 1426881987, 1925078388, 2162078206, 2614888103, 3248222580, 3835390401, 4022224774, 264347078, 604807628, 770255983, 1249150122, 1555081692, 1996064986, 2554220882, 2821834349, 2952996808, 3210313671, 3336571891, 3584528711, 113926993, 338241895, 666307205, 773529912, 1294757372, 1396182291, 1695183700, 1986661051, 2177026350, 2456956037, 2730485921, 2820302411, 3259730800, 3345764771, 3516065817, 3600352804, 4094571909, 275423344, 430227734, 506948616, 659060556, 883997877, 958139571, 1322822218, 1537002063, 1747873779, 1955562222, 2024104815, 2227730452, 2361852424, 2428436474, 2756734187, 3204031479, 3329325298]

theorem shaK_len : shaK.length = 64 := by decide
theorem shaInit_len : shaInit.length = 8 := by decide

def foldN (m : List Int) : Nat → List Int
  | 0 => shaInit
  | q + 1 => comp shaK (foldN m q) ((m.drop (64 * q)).take 64)

theorem foldN_len (m : List Int) (q : Nat) : (foldN m q).length = 8 := by
  induction q with
  | zero => exact shaInit_len
  | succ q ih => exact comp_len _ _ _ ih

theorem foldN_append (m x : List Int) (q : Nat) (h : 64 * q ≤ m.length) : foldN (m ++ x) q = foldN m q := by
  induction q with
  | zero => rfl
  | succ q ih =>
    rw [foldN, foldN, ih (by omega), List.drop_append_of_le_length (by omega), List.take_append_of_le_length (by simp; omega)]

/-- what a sum holds behind the bytes m -/
structure HS (m st bl : List Int) (fill : Nat) : Prop where
  stEq : st = foldN m (m.length / 64)
  len : bl.length = 64
  fillEq : fill = m.length % 64
  front : bl.take fill = m.drop (64 * (m.length / 64))

theorem HS.stLen {m st bl : List Int} {fill : Nat} (h : HS m st bl fill) : st.length = 8 := by rw [h.stEq]; exact foldN_len _ _

theorem HS.zero : HS [] shaInit (List.replicate 64 0) 0 := ⟨rfl, by simp, rfl, by simp⟩

def splice (l : List Int) (o : Nat) (vs : List Int) : List Int := l.take o ++ vs ++ l.drop (o + vs.length)

theorem splice_len (l : List Int) (o : Nat) (vs : List Int) (h : o + vs.length ≤ l.length) : (splice l o vs).length = l.length := by
  simp [splice]; omega

theorem splice_nil (l : List Int) (o : Nat) : splice l o [] = l := by simp [splice]

theorem splice_cons (l : List Int) (o : Nat) (v : Int) (vs : List Int) (h : o < l.length) : splice (l.set o v) (o + 1) vs = splice l o (v :: vs) := by
  unfold splice
  have h1 : (l.set o v).take (o + 1) = l.take o ++ [v] := by
    rw [List.take_add_one, List.take_set_of_le (Nat.le_refl o)]
    simp [h]
  rw [h1]
  have h2 : (l.set o v).drop (o + 1 + vs.length) = l.drop (o + (v :: vs).length) := by
    rw [List.drop_set_of_lt (by omega)]
    congr 1
    simp; omega
  rw [h2]
  simp

theorem HS.part {m st bl x : List Int} {fill : Nat} (h : HS m st bl fill) (hx : fill + x.length < 64) : HS (m ++ x) st (splice bl fill x) (fill + x.length) := by
  have hf := h.fillEq
  have e : (m.length + x.length) / 64 = m.length / 64 := by omega
  refine ⟨?_, ?_, ?_, ?_⟩
  · rw [List.length_append, e, foldN_append _ _ _ (by omega)]; exact h.stEq
  · rw [splice_len _ _ _ (by rw [h.len]; omega)]; exact h.len
  · rw [List.length_append]; omega
  · rw [List.length_append, e, List.drop_append_of_le_length (by omega), ← h.front]
    unfold splice
    have hl := h.len
    have : (bl.take fill ++ x).length = fill + x.length := by simp; omega
    rw [← this, List.take_left']
    rfl

theorem HS.full {m st bl x : List Int} {fill : Nat} (h : HS m st bl fill) (hx : fill + x.length = 64) : HS (m ++ x) (comp shaK st (splice bl fill x)) (splice bl fill x) 0 := by
  have hf := h.fillEq
  have hl := h.len
  have e : (m.length + x.length) / 64 = m.length / 64 + 1 := by omega
  have es : splice bl fill x = bl.take fill ++ x := by
    unfold splice
    rw [hx, List.drop_of_length_le (by omega), List.append_nil]
  refine ⟨?_, ?_, ?_, ?_⟩
  · rw [List.length_append, e, foldN, foldN_append _ _ _ (by omega), ← h.stEq]
    congr 1
    have h64 : (bl.take fill ++ x).length = 64 := by simp; omega
    rw [List.drop_append_of_le_length (by omega), ← h.front, es]
    exact (List.take_of_length_le (by omega)).symm
  · rw [splice_len _ _ _ (by omega)]; exact h.len
  · rw [List.length_append]; omega
  · rw [List.length_append, e, List.drop_of_length_le (by simp; omega)]; simp

/-- the bytes of a text -/
def bts (s : ByteArray) : List Int := s.data.toList.map fun c => (c.toNat : Int)
theorem bts_len (s : ByteArray) : (bts s).length = s.size := by simp [bts]
theorem bts_extract (s : ByteArray) (a b : Nat) : bts (s.extract a b) = ((bts s).take b).drop a := by
  simp [bts, ByteArray.data_extract, List.map_drop, List.map_take, List.drop_take]
theorem bts_append (a b : ByteArray) : bts (a ++ b) = bts a ++ bts b := by simp [bts]
theorem bts_inj {a b : ByteArray} (h : bts a = bts b) : a = b := by
  have : a.data.toList = b.data.toList := by
    refine (List.map_inj_right (f := fun c : UInt8 => (c.toNat : Int)) ?_).1 h
    intro x y hxy
    have : x.toNat = y.toNat := by exact_mod_cast hxy
    exact UInt8.toNat_inj.1 this
  cases a; cases b
  simp at this
  simp [this]
theorem bts_range (s : ByteArray) : ∀ x ∈ bts s, 0 ≤ x ∧ x < 256 := by
  intro x hx
  obtain ⟨c, _, rfl⟩ := List.mem_map.1 hx
  have := c.toNat_lt
  omega

/-- n in so many bytes, the highest first -/
def beBytes (n : Int) : Nat → List Int
  | 0 => []
  | k + 1 => beBytes (n / 256) k ++ [n % 256]

def padOf (len : Nat) : List Int := 128 :: List.replicate (63 - (len + 8) % 64) 0 ++ beBytes (8 * len % 18446744073709551616) 8

/-- the sum: 32 bytes -/
def shaL (m : List Int) : List Int := (foldN (m ++ padOf m.length) ((m ++ padOf m.length).length / 64)).flatMap fun x => beBytes x 4

/-- bytes as a text -/
def txt (l : List Int) : ByteArray := ⟨(l.map fun x => UInt8.ofNat x.toNat).toArray⟩
theorem txt_size (l : List Int) : (txt l).size = l.length := by simp [txt, ByteArray.size]
theorem bts_txt (l : List Int) (h : ∀ x ∈ l, 0 ≤ x ∧ x < 256) : bts (txt l) = l := by
  unfold bts txt
  simp only [List.map_map]
  conv => rhs; rw [← List.map_id l]
  apply List.map_congr_left
  intro x hx
  have := h x hx
  simp [Function.comp]
  omega
theorem txt_bts (s : ByteArray) : txt (bts s) = s := bts_inj (bts_txt _ (bts_range s))

/-- SHA-256 of a text -/
def sha (s : ByteArray) : ByteArray := txt (shaL (bts s))

end Go.Proofs.Ytkokagbmmlngjaa
