/- The walks of package sha: rounds, New, Write, Sum, Of. -/
import Derived.Test.YtkokagbmmlngjaaSha1
import Derived.Deep.MidRow
import Derived.Laws.BytesArg
namespace Go.Proofs.Ytkokagbmmlngjaa
open Go.RowKit

/-- copy of a text into a block known whole, one cell a byte -/
theorem run_copy_str {P : Program} (w : World) (dT sT ty elem : TypeId) (b o dLen dCap : Nat) (s : ByteArray) (n : Nat)
    (hu : P.underlying dT = some (.slice elem)) (hs : (P.info? elem).map (·.size) = some 1) (hn : n = Nat.min s.size dLen)
    (hc : ∀ j, j < n → (w.cell? ⟨b, o + j, none⟩).isSome = true) (hf : ∀ j, j < n → w.frozen? ⟨b, o + j, none⟩ = false) :
    (Builtin.copy_ #[dT, sT] ty #[.slice (some ⟨b, o, none⟩) dLen dCap, .string s]).run P w = .ok (.int .i64 n) (w.setCells b o (b8 ((bts s).take n))) := by
  obtain ⟨i, hi, hsz⟩ := Option.map_eq_some_iff.1 hs
  have e : ((s.extract 0 n).data.map fun c => Value.int .u8 c.toNat).toList = b8 ((bts s).take n) := by
    simp [b8, bts, ByteArray.data_extract, List.map_take, Function.comp_def]
  have hns : n ≤ s.size := by subst hn; exact Nat.min_le_left _ _
  have hl : (b8 ((bts s).take n)).length = n := by
    simp [b8, bts_len]
    omega
  have hst := run_storeCells_cells (P := P) b o (b8 ((bts s).take n)) 0 w (fun j hj => by simpa using hc j (by omega)) (fun j hj => by simpa using hf j (by omega)) (by
    intro v hv
    simp only [b8, List.mem_map] at hv
    obtain ⟨x, _, rfl⟩ := hv
    rfl)
  have e' : b8 ((bts s).take n) = List.take n (List.map (fun c : UInt8 => Value.int .u8 c.toNat) s.data.toList) := by
    simp [b8, bts, List.map_take, Function.comp_def]
  rw [e'] at hst ⊢
  simp only [Nat.add_zero] at hst
  simp [Builtin.copy_, Builtin.lenOf, Builtin.firstCells, sizeOf, typeInfo, run_underlying hu, hi, ← hn]
  rw [hst]
  rfl

theorem Blk.setCells {b : Nat} {T : TypeId} : ∀ (vs : List Value) (o : Nat) {w : World} {l : List Value}, Blk w b T l → o + vs.length ≤ l.length →
    Blk (w.setCells b o vs) b T (l.take o ++ vs ++ l.drop (o + vs.length))
  | [], o, w, l, h, _ => by simpa [World.setCells] using h
  | v :: r, o, w, l, h, hl => by
    have ih := Blk.setCells r (o + 1) (h.set o v) (by simp at hl ⊢; omega)
    simp only [World.setCells]
    have e : (l.set o v).take (o + 1) ++ r ++ (l.set o v).drop (o + 1 + r.length) = l.take o ++ (v :: r) ++ l.drop (o + (v :: r).length) := by
      simp at hl
      rw [List.take_add_one, List.take_set_of_le (Nat.le_refl o), List.drop_set_of_lt (by omega)]
      simp [show o < l.length by omega]
      congr 1
      omega
    rw [e] at ih
    exact ih

theorem Keeps.setCells {S : Nat → Prop} {a : World} {b : Nat} (hb : S b ∨ a.heap.size ≤ b) : ∀ (vs : List Value) (o : Nat) {w : World}, Keeps S a w → Keeps S a (w.setCells b o vs)
  | [], _, _, h => h
  | v :: r, o, _, h => Keeps.setCells hb r (o + 1) (h.setCell (p := ⟨b, o, none⟩) hb v)

theorem hashCells_splice (st bl : List Int) (fill size : Int) (hst : st.length = 8) (hbl : bl.length = 64) (o : Nat) (vs : List Int) (h : o + vs.length ≤ 64) :
    (hashCells st bl fill size).take (8 + o) ++ b8 vs ++ (hashCells st bl fill size).drop (8 + o + (b8 vs).length) = hashCells st (splice bl o vs) fill size := by
  unfold hashCells splice
  have l1 : (w32 st).length = 8 := by simp [w32, hst]
  have l2 : (b8 bl).length = 64 := by simp [b8, hbl]
  have l3 : (b8 vs).length = vs.length := by simp [b8]
  have t (C : List Value) : (w32 st ++ b8 bl ++ C).take (8 + o) = w32 st ++ (b8 bl).take o := by
    rw [List.append_assoc, List.take_append, l1, List.take_of_length_le (by omega), show 8 + o - 8 = o by omega, List.take_append_of_le_length (by omega)]
  have d (C : List Value) : (w32 st ++ b8 bl ++ C).drop (8 + o + (b8 vs).length) = (b8 bl).drop (o + vs.length) ++ C := by
    rw [List.append_assoc, List.drop_append, l1, List.drop_of_length_le (by omega), l3, show 8 + o + vs.length - 8 = o + vs.length by omega, List.drop_append_of_le_length (by omega)]
    rfl
  rw [t, d]
  simp [b8, List.map_take, List.map_drop]

theorem w32_one (l : List Int) : ∀ v ∈ w32 l, v.oneCell' = true := by
  intro v hv
  obtain ⟨x, _, rfl⟩ := List.mem_map.1 hv
  rfl
theorem w32_len (l : List Int) : (w32 l).length = l.length := by simp [w32]

set_option maxRecDepth 100000 in
set_option maxHeartbeats 1000000 in
theorem rounds_any (w : World) :
    Calls Try.prog 142 #[] w fun e w' => e = .returned (.agg (w32 shaK).toArray) ∧ Same w w' := by
  go_enter Try.func142, Try.ntmps142
  obtain ⟨K, hK⟩ : ∃ K, Kept (shaK = K) := ⟨_, ⟨rfl⟩⟩
  have hsz : Kept (K.length = 64) := ⟨by rw [← hK.out]; rfl⟩
  go_wp2_with (first
    | (refine wpList_build rfl 190 _ rfl (by kernel_rfl) ?_; generalize hb : (Program.built _ _ _).getD _ = bv; have hbv : bv = (w32 K).toArray := (by rw [← hK.out, ← hb]; kernel_rfl); clear hb; subst hbv)
    | (refine wpList_store_blk rfl 190 _ _ rfl w.heap.size (w32 K) rfl rfl 190 (w32 (List.replicate 64 0)) (Blk.new w _ _) (by rw [w32_len, hsz.out]; kernel_rfl) (by simp only [w32_len, List.length_replicate, hsz.out]) (w32_one K) ?_; intro w2 hB hk _))
  refine bodyPost_ret (results_cell_row rfl _ _ w.heap.size 190 _ (0, 0) (.array 64 185) rfl hB (by kernel_rfl) rfl (by rw [List.size_toArray, w32_len, hsz.out]; kernel_rfl)) rfl ⟨by rw [hK.out], ?_⟩
  exact ((Keeps.refl _ _).alloc _).then hk fun i hi e => by omega

set_option maxRecDepth 100000 in
set_option maxHeartbeats 1000000 in
theorem new_any (w : World) :
    Calls Try.prog 128 #[] w fun e w' => e = .returned (.pointer (some ⟨w.heap.size, 0, none⟩)) ∧ Same w w' ∧ Blk w' w.heap.size 189 (hashCells shaInit (List.replicate 64 0) 0 0) ∧ w'.heap.size = w.heap.size + 1 := by
  go_enter Try.func128, Try.ntmps128
  go_wp2
  go_ret
  exact ⟨rfl, (Keeps.refl _ _).alloc _, Blk.new w 189 (hashCells shaInit (List.replicate 64 0) 0 0), World.size_alloc _ _⟩


def strLen : Value → Nat
  | .string s => s.size
  | _ => 0

set_option maxRecDepth 100000 in
set_option maxHeartbeats 1000000 in
theorem write_any (h : Nat) (m st bl : List Int) (fill : Nat) (size : Int) (s : ByteArray) (w : World) (hs : s.size ≤ 9223372036854775807)
    (hH : HS m st bl fill) (hb : Blk w h 189 (hashCells st bl fill size)) :
    Calls Try.prog 129 #[.pointer (some ⟨h, 0, none⟩), .string s] w fun e w' => e = .returned (.tuple #[]) ∧ Keeps (· = h) w w' ∧
      ∃ st' bl' fill', HS (m ++ bts s) st' bl' fill' ∧ Blk w' h 189 (hashCells st' bl' fill' ((size + s.size) % 18446744073709551616)) := by
  have hst := hH.stLen
  have hbl := hH.len
  go_enter Try.func129, Try.ntmps129
  obtain ⟨K, hK⟩ : ∃ K, Kept (shaK = K) := ⟨_, ⟨rfl⟩⟩
  have hsz : Kept (K.length = 64) := ⟨by rw [← hK.out]; rfl⟩
  have hlt := hb.lt
  go_wp2_with (first
    | (go_at_call 142; refine (rounds_any _).mono ?_; rintro e w1 ⟨rfl, hsame⟩; rw [hK.out])
    | (refine wpList_store_blk rfl 190 _ _ rfl w1.heap.size (w32 K) rfl rfl 190 (w32 (List.replicate 64 0)) (Blk.new w1 _ _) (by rw [w32_len, hsz.out]; kernel_rfl) (by simp only [w32_len, List.length_replicate, hsz.out]) (w32_one K) ?_; intro w2 hB hk hs2
       have hsame2 : Same w w2 := (hsame.alloc _).then hk fun i hi e => (by have := hsame.size; omega)
       have hb2 := hsame2.blk hb (fun f => f)
       have hc := hb2.cell' (hashCells_size st bl fill size hst hbl)
       have hf := hb2.frozen 73))
  have hszw : IntKind.u64.wrap (size + (s.size : Int)) = (size + s.size) % 18446744073709551616 := IntKind.wrap_u64 _
  rw [hszw]
  clear hszw
  obtain ⟨sz, hszd⟩ : ∃ sz, Kept ((size + (s.size : Int)) % 18446744073709551616 = sz) := ⟨_, ⟨rfl⟩⟩
  rw [hszd.out]
  have hb3 := hb2.set 73 (.int .u64 sz)
  rw [hashCells_setSize st bl fill size hst hbl] at hb3
  have hk3 : Keeps (· = h) w (w2.setCell ⟨h, 73, none⟩ (.int .u64 sz)) := (Keeps.of_same (S := (· = h)) hsame2).setCell (p := ⟨h, 73, none⟩) (.inl rfl) _
  have hbk : w.heap.size ≤ w1.heap.size := hsame.size
  have hB3 : Blk (w2.setCell ⟨h, 73, none⟩ (.int .u64 sz)) w1.heap.size 190 (w32 K) := hB.setOther (by omega) _ _
  clear hc hf hb2 hsame2 hB hk hs2 hsame
  generalize w2.setCell ⟨h, 73, none⟩ (.int .u64 sz) = w3 at *
  generalize w1.heap.size = bk at *
  go_loopw [1] (fun v wr => ∃ (r : ByteArray) (m1 st bl : List Int) (fill : Nat), v = .string r ∧ Kept (m1 ++ bts r = m ++ bts s) ∧ r.size ≤ 9223372036854775807 ∧ HS m1 st bl fill ∧ Keeps (· = h) w wr ∧
      Blk wr h 189 (hashCells st bl fill sz) ∧ Blk wr bk 190 (w32 K)) (fun v _ => strLen v)
  case atStart => exact ⟨s, m, st, bl, fill, rfl, ⟨rfl⟩, hs, hH, hk3, hb3, hB3⟩
  case round =>
    clear hH hb3 hk3 hB3 hb hst hbl
    obtain ⟨r, m1, st, bl, fill, rfl, hm, hr, hH, hk, hb, hB⟩ := hrel
    have hst := hH.stLen
    have hbl := hH.len
    by_cases hpos : 0 < r.size
    · have hfl : fill < 64 := by have := hH.fillEq; omega
      obtain ⟨n, hn, hn1, hn2, hn3, hn4⟩ : ∃ n, Kept (n = Nat.min r.size (64 - fill)) ∧ n ≤ r.size ∧ fill + n ≤ 64 ∧ 0 < n ∧ (n = r.size ∨ fill + n = 64) := by
        refine ⟨_, ⟨rfl⟩, Nat.min_le_left _ _, ?_, ?_, ?_⟩
        · have : r.size.min (64 - fill) ≤ 64 - fill := Nat.min_le_right _ _
          omega
        · show 0 < min _ _; omega
        · show min _ _ = _ ∨ fill + min _ _ = _; omega
      have hc := hb.cell' (hashCells_fill st bl fill sz hst hbl)
      have hsl := fun W => sliceAt_arr_from (P := Try.prog) (t := 187) (e := 5) (n := 64) (s := 1) (by kernel_rfl) (by kernel_rfl) h 8 fill (fill : Int) rfl hfl W
      rw [Nat.mul_one] at hsl
      have hxl : ((bts r).take n).length = n := by rw [List.length_take, bts_len]; omega
      have hcp := fun ty => run_copy_str (P := Try.prog) wr.drew 60 9 ty 5 h (8 + fill) (64 - fill) (64 - fill) r n (by kernel_rfl) (by kernel_rfl) hn.out
        (fun j hj => by
          have := (hb.drew).cell' (hashCells_bl st bl fill sz hst hbl (fill + j) (by omega))
          rw [← Nat.add_assoc] at this
          rw [this]; rfl) (fun j hj => hb.drew.frozen _)
      have hb4 : Blk (wr.drew.setCells h (8 + fill) (b8 ((bts r).take n))) h 189 (hashCells st (splice bl fill ((bts r).take n)) fill sz) := by
        have := (hb.drew).setCells (b8 ((bts r).take n)) (8 + fill) (by rw [hashCells_len _ _ _ _ hst hbl]; simp [b8]; omega)
        rw [hashCells_splice _ _ _ _ hst hbl _ _ (by omega)] at this
        exact this
      have hk4 : Keeps (· = h) w (wr.drew.setCells h (8 + fill) (b8 ((bts r).take n))) := Keeps.setCells (S := (· = h)) (.inl rfl) _ _ hk.drew
      have hB4 : Blk (wr.drew.setCells h (8 + fill) (b8 ((bts r).take n))) bk 190 (w32 K) :=
        (Keeps.setCells (S := (· = h)) (.inl rfl) _ _ (Keeps.refl _ wr.drew)).blk hB.drew (by omega)
      generalize wr.drew.setCells h (8 + fill) (b8 ((bts r).take n)) = w4 at *
      have hbl4 : (splice bl fill ((bts r).take n)).length = 64 := by rw [splice_len _ _ _ (by omega)]; exact hbl
      have hc4 := hb4.cell' (hashCells_fill st _ fill sz hst hbl4)
      have hf4 := hb4.frozen 72
      have hb5 := hb4.set 72 (.int .i64 ((fill : Int) + n))
      rw [hashCells_setFill _ _ _ _ hst hbl4] at hb5
      have hc5 := hb5.cell' (hashCells_fill st _ _ sz hst hbl4)
      have hk5 := hk4.setCell (p := ⟨h, 72, none⟩) (.inl rfl) (.int .i64 ((fill : Int) + n))
      have hB5 := hB4.setOther (show h ≠ bk by omega) 72 (.int .i64 ((fill : Int) + n))
      have hbr : bts (r.extract n r.size) = (bts r).drop n := by rw [bts_extract, List.take_of_length_le (by rw [bts_len]; omega)]
      have hmx : Kept (m1 ++ (bts r).take n ++ bts (r.extract n r.size) = m ++ bts s) := ⟨by rw [hbr, List.append_assoc, List.take_append_drop, hm.out]⟩
      have hrs : (r.extract n r.size).size = r.size - n := by simp
      have hKl : K.length = 64 := hsz.out
      have hrs' : (r.extract n r.size).size ≤ 9223372036854775807 := by omega
      have hrlt : (r.extract n r.size).size < r.size := by omega
      have hcK : Kept (comp K = comp shaK) := ⟨by rw [hK.out]⟩
      clear hbr hrs
      by_cases hfull : fill + n = 64
      · have hH6 := hH.full (x := (bts r).take n) (by rw [hxl]; exact hfull)
        have ht : (((fill : Int) + n) == 64) = true := by rw [beq_iff_eq]; omega
        clear hn4 hfull
        go_wp2_with fail
        refine wp_region_still_tail 9 (by kernel_rfl) (by kernel_rfl) ?_
        simp only [List.take_succ_cons, List.take_zero, List.drop_succ_cons, List.drop_zero]
        repeat still_step
        try refine wpStill_nil ?_
        change wpList _ _ _ _ _ wr.drew
        go_wp2_with (go_at_call 143; refine (turn_any h bk st _ K _ _ _ hst hbl4 hKl hb5 hB5).mono ?_; rintro e w6 ⟨rfl, hk6, hb6⟩)
        go_roundw
        case rel =>
          refine ⟨_, _, _, _, 0, rfl, hmx, hrs', hH6, hk5.then hk6 (fun i _ e => e), ?_, hk6.blk hB5 (by omega)⟩
          rw [hcK.out] at hb6
          exact hb6
        case measure => exact hrlt
      · have hH6 := hH.part (x := (bts r).take n) (by rw [hxl]; omega)
        have ht : (((fill : Int) + n) == 64) = false := by rw [beq_eq_false_iff_ne]; omega
        clear hn4 hfull
        go_wp2_with fail
        refine wp_region_still_tail 9 (by kernel_rfl) (by kernel_rfl) ?_
        simp only [List.take_succ_cons, List.take_zero, List.drop_succ_cons, List.drop_zero]
        repeat still_step
        try refine wpStill_nil ?_
        change wpList _ _ _ _ _ wr.drew
        go_wp2_with fail
        go_roundw
        case rel =>
          refine ⟨_, _, _, _, _, rfl, hmx, hrs', hH6, hk5, ?_, hB5⟩
          rw [Int.natCast_add, hxl]
          exact hb5
        case measure => exact hrlt
    · have hz : r.size = 0 := by omega
      have hbz : bts r = [] := List.length_eq_zero_iff.1 (by rw [bts_len]; exact hz)
      go_wp2_with fail
      go_end0
      refine ⟨rfl, hk, st, bl, fill, ?_, by rw [hszd.out]; exact hb⟩
      have := hm.out
      rw [hbz, List.append_nil] at this
      rw [← this]; exact hH

theorem b8_len (l : List Int) : (b8 l).length = l.length := by simp [b8]
theorem hashCells_one (st bl : List Int) (fill size : Int) : ∀ v ∈ hashCells st bl fill size, v.oneCell' = true := by
  intro v hv
  simp only [hashCells, List.mem_append, w32, b8, List.mem_map, List.mem_cons, List.not_mem_nil, or_false] at hv
  rcases hv with (⟨x, _, rfl⟩ | ⟨x, _, rfl⟩) | rfl | rfl <;> rfl

theorem beBytes_range (n : Int) (k : Nat) : ∀ x ∈ beBytes n k, 0 ≤ x ∧ x < 256 := by
  induction k generalizing n with
  | zero => intro x hx; simp [beBytes] at hx
  | succ k ih =>
    intro x hx
    rw [beBytes, List.mem_append, List.mem_singleton] at hx
    rcases hx with hx | rfl
    · exact ih _ x hx
    · omega
theorem padOf_range (len : Nat) : ∀ x ∈ padOf len, 0 ≤ x ∧ x < 256 := by
  intro x hx
  simp only [padOf, List.cons_append, List.mem_cons, List.mem_append, List.mem_replicate] at hx
  rcases hx with rfl | ⟨_, rfl⟩ | hx
  · omega
  · omega
  · exact beBytes_range _ _ x hx

theorem set_rep (A : List Int) (k : Nat) (v : Int) : (A ++ List.replicate (k + 1) 0).set A.length v = A ++ [v] ++ List.replicate k 0 := by
  rw [List.set_append_right _ _ (Nat.le_refl _)]
  simp [List.replicate_succ]

theorem beBytes_len (n : Int) (k : Nat) : (beBytes n k).length = k := by
  induction k generalizing n with
  | zero => rfl
  | succ k ih => simp [beBytes, ih]

theorem beBytes_get (n : Int) (k : Nat) : ∀ i, i < k → (beBytes n k)[i]? = some (n / 2 ^ (8 * (k - 1 - i)) % 256) := by
  induction k generalizing n with
  | zero => intro i hi; omega
  | succ k ih =>
    intro i hi
    rw [beBytes]
    by_cases h : i < k
    · rw [List.getElem?_append_left (by rw [beBytes_len]; exact h), ih _ _ h, Int.ediv_ediv_of_nonneg (by decide)]
      congr 2
      rw [show 8 * (k + 1 - 1 - i) = 8 * (k - 1 - i) + 8 by omega, Int.pow_add, Int.mul_comm]
      rfl
    · obtain rfl : i = k := by omega
      rw [List.getElem?_append_right (by rw [beBytes_len]; exact Nat.le_refl _), beBytes_len]
      simp

theorem beBytes_take (n : Int) (k i : Nat) (h : i < k) : (beBytes n k).take (i + 1) = (beBytes n k).take i ++ [n / 2 ^ (8 * (k - 1 - i)) % 256] := by
  rw [List.take_add_one, beBytes_get _ _ _ h]
  rfl

/-- the sum's tail, i bytes of the number of bits laid -/
def tailN (n : Nat) (S : Int) (i : Nat) : List Int := 128 :: List.replicate (n - 1) 0 ++ (beBytes S 8).take i ++ List.replicate (72 - n - i) 0

theorem tailN_len (n : Nat) (S : Int) (i : Nat) (h1 : 1 ≤ n) (h2 : n ≤ 64) (hi : i ≤ 8) : (tailN n S i).length = 72 := by
  simp [tailN, beBytes_len]; omega
theorem tailN_zero (n : Nat) (S : Int) (h1 : 1 ≤ n) (h2 : n ≤ 64) : tailN n S 0 = 128 :: List.replicate 71 0 := by
  unfold tailN
  rw [List.take_zero, List.append_nil, List.cons_append, List.replicate_append_replicate, show n - 1 + (72 - n - 0) = 71 by omega]
theorem tailN_succ (n : Nat) (S : Int) (i : Nat) (h1 : 1 ≤ n) (h2 : n ≤ 64) (hi : i < 8) : (tailN n S i).set (n + i) (S / 2 ^ (56 - 8 * i) % 256) = tailN n S (i + 1) := by
  have e : (128 :: List.replicate (n - 1) 0 ++ (beBytes S 8).take i).length = n + i := by simp [beBytes_len]; omega
  unfold tailN
  rw [show 72 - n - i = (72 - n - (i + 1)) + 1 by omega, ← e, set_rep, beBytes_take _ _ _ hi, show 8 * (8 - 1 - i) = 56 - 8 * i by omega, ← List.append_assoc]
theorem tailN_at (n : Nat) (S : Int) (i : Nat) (h1 : 1 ≤ n) (h2 : n ≤ 64) (hi : i < 8) : (b8 (tailN n S i))[n + i]? = some (.int .u8 0) := by
  have e : (128 :: List.replicate (n - 1) 0 ++ (beBytes S 8).take i).length = n + i := by simp [beBytes_len]; omega
  unfold tailN b8
  rw [List.getElem?_map, List.getElem?_append_right (by omega), e, Nat.sub_self, List.getElem?_replicate, if_pos (by omega)]
  rfl
theorem tailN_pad (len n : Nat) (S : Int) (hn : n = 64 - (len + 8) % 64) (hS : S = 8 * len % 18446744073709551616) : (tailN n S 8).take (n + 8) = padOf len := by
  have e : (128 :: List.replicate (n - 1) 0 ++ (beBytes S 8).take 8).length = n + 8 := by simp [beBytes_len]; omega
  unfold tailN padOf
  rw [← e, List.take_left', List.take_of_length_le (by rw [beBytes_len]; exact Nat.le_refl _), hS, show n - 1 = 63 - (len + 8) % 64 by omega]
  rfl

/-- the sum's bytes, i words and j bytes laid -/
def outN (st : List Int) (i j : Nat) : List Int := (st.take i).flatMap (fun x => beBytes x 4) ++ (beBytes (gi st i) 4).take j ++ List.replicate (32 - (4 * i + j)) 0

theorem flat4_len (st : List Int) : (st.flatMap fun x => beBytes x 4).length = 4 * st.length := by
  induction st with
  | nil => rfl
  | cons x xs ih => simp [beBytes_len, ih]; omega
theorem outN_len (st : List Int) (i j : Nat) (hst : st.length = 8) (hi : i ≤ 8) (hj : j ≤ 4) (h : 4 * i + j ≤ 32) : (outN st i j).length = 32 := by
  unfold outN
  rw [List.length_append, List.length_append, flat4_len]
  simp [beBytes_len]
  omega
theorem outN_set (st : List Int) (i j : Nat) (hst : st.length = 8) (hi : i < 8) (hj : j < 4) : (outN st i j).set (4 * i + j) (gi st i / 2 ^ (24 - 8 * j) % 256) = outN st i (j + 1) := by
  have e : ((st.take i).flatMap (fun x => beBytes x 4) ++ (beBytes (gi st i) 4).take j).length = 4 * i + j := by
    rw [List.length_append, flat4_len]; simp [beBytes_len]; omega
  unfold outN
  rw [show 32 - (4 * i + j) = (32 - (4 * i + (j + 1))) + 1 by omega, ← e, set_rep, beBytes_take _ _ _ hj, show 8 * (4 - 1 - j) = 24 - 8 * j by omega, ← List.append_assoc]
theorem outN_next (st : List Int) (i : Nat) (hst : st.length = 8) (hi : i < 8) : outN st i 4 = outN st (i + 1) 0 := by
  have e : st.take (i + 1) = st.take i ++ [gi st i] := by rw [List.take_add_one, gi_some st i (by omega)]; rfl
  unfold outN
  have e4 : (beBytes (gi st i) 4).take 4 = beBytes (gi st i) 4 := List.take_of_length_le (by rw [beBytes_len]; exact Nat.le_refl _)
  rw [e, e4, show 4 * i + 4 = 4 * (i + 1) + 0 by omega]
  simp
theorem outN_at (st : List Int) (i j : Nat) (hst : st.length = 8) (hi : i < 8) (hj : j < 4) : (b8 (outN st i j))[4 * i + j]? = some (.int .u8 0) := by
  have e : ((st.take i).flatMap (fun x => beBytes x 4) ++ (beBytes (gi st i) 4).take j).length = 4 * i + j := by
    rw [List.length_append, flat4_len]; simp [beBytes_len]; omega
  unfold outN b8
  rw [List.getElem?_map, List.getElem?_append_right (by omega), e, Nat.sub_self, List.getElem?_replicate, if_pos (by omega)]
  rfl
theorem outN_zero (st : List Int) : outN st 0 0 = List.replicate 32 0 := by simp [outN]
theorem outN_all (st : List Int) (hst : st.length = 8) : outN st 8 0 = st.flatMap (fun x => beBytes x 4) := by
  unfold outN
  rw [List.take_of_length_le (by omega)]
  simp

/-- bytes of a block as a text -/
theorem convert_blk {P : Program} {w : World} {src e dst : TypeId} (hs : P.underlying src = some (.slice e)) (he : P.underlying e = some (.int .u8)) (hd : P.underlying dst = some .string) {b : Nat} {T : TypeId} {l : List Int}
    (hB : Blk w b T (b8 l)) (len cap : Nat) (hl : len ≤ l.length) :
    (convert src dst (.slice (some ⟨b, 0, none⟩) len cap)).run P w = .ok (.string (txt (l.take len))) w := by
  refine run_convert_bytes_arg w src e hs he b 0 len cap (l.take len) (by simp; omega) (fun i hi => ?_) dst hd
  rw [Nat.zero_add]
  refine hB.cell' ?_
  rw [b8_at l i (by omega)]
  simp [gi, List.getD_eq_getElem?_getD, List.getElem?_take, hi]

/-- an element of an array value -/
theorem index_w32 {P : Program} {t e n : Nat} (ht : P.underlying t = some (.array n e)) (hs : (P.info? e).map (·.size) = some 1) (he : P.underlying e = some (.int .u32)) (l : List Int) (hl : l.length = n) (i : Nat) (hi : i < n) (w : World) :
    (Instr.index t (.agg (w32 l).toArray) (.int .i64 i)).run P w = .ok (.int .u32 (gi l i)) w := by
  have h1 : (i : Int) < n := by omega
  simp [Instr.index, asIntOf, run_underlying ht, h1, hi, run_size hs, part, isAgg, run_underlying he, w32_at l i (by omega)]

set_option maxRecDepth 100000 in
set_option maxHeartbeats 2000000 in
theorem sum_any (h : Nat) (m st bl : List Int) (fill : Nat) (size : Int) (w : World) (hml : m.length ≤ 9223372036854775807) (hsize : size = (m.length : Int) % 18446744073709551616)
    (hH : HS m st bl fill) (hb : Blk w h 189 (hashCells st bl fill size)) :
    Calls Try.prog 130 #[.pointer (some ⟨h, 0, none⟩)] w fun e w' => e = .returned (.string (txt (shaL m))) ∧ Same w w' := by
  have hst := hH.stLen
  have hbl := hH.len
  have hsz : Kept (size = (m.length : Int) % 18446744073709551616) := ⟨hsize⟩
  clear hsize
  have hlt := hb.lt
  have hfl : fill < 64 := by have := hH.fillEq; omega
  have hcfill := hb.cell' (hashCells_fill st bl fill size hst hbl)
  have hcsize := hb.cell' (hashCells_size st bl fill size hst hbl)
  go_enter Try.func130, Try.ntmps130
  go_wp2_with (first
    | (refine wpList_load_blk rfl 189 _ rfl h rfl 189 (hashCells st bl fill size) _ hb Try.underlying189 rfl (by rw [hashCells_len _ _ _ _ hst hbl]; kernel_rfl) ?_)
    | (refine wpList_store_blk rfl 189 _ _ rfl w.heap.size (hashCells st bl fill size) rfl rfl 189 (hashCells (List.replicate 8 0) (List.replicate 64 0) 0 0) (Blk.new w _ _) (by rw [hashCells_len _ _ _ _ hst hbl]; kernel_rfl) (by rw [hashCells_len _ _ _ _ hst hbl]; rfl) (hashCells_one _ _ _ _) ?_; intro w2 hB hk hs2
       have hsame2 : Same w w2 := ((Keeps.refl _ _).alloc _).then hk fun i hi e => (by omega)
       have hb2 := hsame2.blk hb (fun f => f)
       have hcfill := hb2.cell' (hashCells_fill st bl fill size hst hbl)
       have hcsize := hb2.cell' (hashCells_size st bl fill size hst hbl)
       have hlt2 := hb2.lt
       have hlt3 := hB.lt
       clear hs2 hk))
  obtain ⟨n, hn, hn1, hn2⟩ : ∃ n : Nat, Kept (n = 64 - (fill + 8) % 64) ∧ 1 ≤ n ∧ n ≤ 64 := ⟨_, ⟨rfl⟩, by omega, by omega⟩
  have hne : (64 - ((fill : Int) + 8) % 64) = (n : Int) := by have := hn.out; omega
  rw [hne]
  clear hne hcfill hcsize
  obtain ⟨S, hS⟩ : ∃ S, Kept (IntKind.u64.wrap (size * 8) = S) := ⟨_, ⟨rfl⟩⟩
  have hT : Blk (w2.alloc (Obj.cells (Try.zeroCells194.setIfInBounds 0 (Value.int IntKind.u8 128)) 194)) w2.heap.size 194 (b8 (tailN n S 0)) := by
    rw [tailN_zero n S hn1 hn2]
    exact Blk.new w2 194 (b8 (128 :: List.replicate 71 0))
  have hs3 : Same w (w2.alloc (Obj.cells (Try.zeroCells194.setIfInBounds 0 (Value.int IntKind.u8 128)) 194)) := hsame2.alloc _
  have hB3 := hB.alloc (Obj.cells (Try.zeroCells194.setIfInBounds 0 (Value.int IntKind.u8 128)) 194)
  generalize w2.alloc (Obj.cells (Try.zeroCells194.setIfInBounds 0 (Value.int IntKind.u8 128)) 194) = w3 at *
  clear hb2 hB hsame2
  have hlt3' : w.heap.size ≤ w2.heap.size := by omega
  clear hlt2
  generalize w2.heap.size = bt at *
  go_loopw [22] (fun t wr => ∃ i : Nat, i ≤ 8 ∧ t = .int .i64 i ∧ Same w wr ∧ Blk wr bt 194 (b8 (tailN n S i)) ∧ Blk wr w.heap.size 189 (hashCells st bl fill size)) (fun t _ => 8 - (intOf t).toNat)
  case atStart => exact ⟨0, by omega, rfl, hs3, hT, hB3⟩
  case round =>
    obtain ⟨i, hi, rfl, hs, hT, hB⟩ := hrel
    by_cases hlt : i < 8
    · have hc := (hs.blk hb (fun f => f)).cell' (hashCells_size st bl fill size hst hbl)
      have hci : wr.cell? ⟨bt, n + i, none⟩ = some (.int .u8 0) := hT.cell' (tailN_at n S i hn1 hn2 hlt)
      have hf := hT.frozen (n + i)
      have h56 : 0 ≤ 56 - 8 * (i : Int) := by omega
      have h72 : (n : Int) + i < 72 := by omega
      go_wp2_with fail
      go_roundw
      case rel =>
        have := hT.set (n + i) (.int .u8 (S / 2 ^ (56 - 8 * i) % 256))
        rw [b8_set, tailN_succ n S i hn1 hn2 hlt] at this
        rw [hS.out]
        exact ⟨i + 1, by omega, by go_num, hs.setCell (.inr hlt3') _, this, hB.setOther (by omega) _ _⟩
      case measure => simp [intOf]; omega
    · obtain rfl : i = 8 := by omega
      have hsl := fun W => sliceAt_arr_to (P := Try.prog) (t := 194) (e := 5) (n := 72) (s := 1) (by kernel_rfl) (by kernel_rfl) bt 0 (n + 8) ((n : Int) + 8) (by omega) (by omega) (by omega) W
      have hcv := convert_blk (P := Try.prog) (src := 60) (e := 5) (dst := 9) (by kernel_rfl) (by kernel_rfl) (by kernel_rfl) hT (n + 8) 72 (by rw [tailN_len n S 8 hn1 hn2 (by omega)]; omega)
      have hpad : Kept ((tailN n S 8).take (n + 8) = padOf m.length) := ⟨tailN_pad m.length n S (by have := hn.out; have := hH.fillEq; omega) (by
        rw [← hS.out, IntKind.wrap_u64, hsz.out, Int.mul_comm]; omega)⟩
      rw [hpad.out] at hcv
      have hpb : Kept (bts (txt (padOf m.length)) = padOf m.length) := ⟨bts_txt _ (padOf_range _)⟩
      have hps : (txt (padOf m.length)).size ≤ 9223372036854775807 := by rw [txt_size, ← hpad.out, List.length_take, tailN_len n S 8 hn1 hn2 (by omega)]; omega
      generalize txt (padOf m.length) = pt at *
      have hw8 : w.heap.size < wr.heap.size := hB.lt
      go_wp2_with fail
      refine (write_any _ m st bl fill size pt _ hps hH hB).mono ?_
      rintro e w6 ⟨rfl, hk6, st', bl', fill', hH6, hb6⟩
      have hst' := hH6.stLen
      have hbl' := hH6.len
      have hs6 : Same w w6 := hs.then hk6 fun i hi e => by omega
      have hrow : ∀ o, (w6.alloc o).rangeAt w.heap.size 0 (w32 st') := fun o j v hv => by
        rw [Nat.zero_add]
        have hj := (List.getElem?_eq_some_iff.1 hv).1
        rw [w32_len] at hj
        have := (hb6.alloc o).cell' (hashCells_st st' bl' fill' _ hst' j (by omega))
        rw [this, ← hv, w32_at _ _ hj]
      go_wp2_with (refine wpList_load_mid rfl 186 _ rfl w.heap.size 0 rfl (w32 st') _ (hrow _) Try.underlying186 rfl (by rw [w32_len, hst']; kernel_rfl) ?_)
      have hO : Blk (w6.alloc (Obj.cells (b8 (List.replicate 32 0)).toArray 195)) w6.heap.size 195 (b8 (outN st' 0 0)) := by
        rw [outN_zero]
        exact Blk.new w6 195 _
      have hs7 : Same w (w6.alloc (Obj.cells (b8 (List.replicate 32 0)).toArray 195)) := hs6.alloc _
      have hw6 : w.heap.size ≤ w6.heap.size := hs6.size
      change Code.wp _ _ _ _ (w6.alloc (Obj.cells (b8 (List.replicate 32 0)).toArray 195))
      generalize w6.alloc (Obj.cells (b8 (List.replicate 32 0)).toArray 195) = w7 at *
      generalize w6.heap.size = bo at *
      clear hrow
      go_loopw [47] (fun t wr => ∃ i : Nat, i ≤ 8 ∧ t = .int .i64 i ∧ Same w wr ∧ Blk wr bo 195 (b8 (outN st' i 0))) (fun t _ => 8 - (intOf t).toNat)
      case atStart => exact ⟨0, by omega, rfl, hs7, hO⟩
      case round =>
        obtain ⟨i, hi, rfl, hs, hO⟩ := hrel
        by_cases hlt : i < 8
        · have hix := fun W => index_w32 (P := Try.prog) (t := 186) (e := 185) (n := 8) (by kernel_rfl) (by kernel_rfl) (by kernel_rfl) st' hst' i hlt W
          obtain ⟨wo, rfl⟩ : ∃ wo : World, wo = wr := ⟨_, rfl⟩
          go_wp2_with fail
          go_loopw [51] (fun t wr => ∃ j : Nat, j ≤ 4 ∧ t = .int .i64 j ∧ Same w wr ∧ Blk wr bo 195 (b8 (outN st' i j))) (fun t _ => 4 - (intOf t).toNat)
          case atStart => exact ⟨0, by omega, rfl, hs, hO⟩
          case round =>
            obtain ⟨j, hj, rfl, hs, hO⟩ := hrel
            by_cases hlt' : j < 4
            · have hci : wr.cell? ⟨bo, 4 * i + j, none⟩ = some (.int .u8 0) := hO.cell' (outN_at st' i j hst' hlt hlt')
              have hf := hO.frozen (4 * i + j)
              have h24 : 0 ≤ 24 - 8 * (j : Int) := by omega
              have h32 : 4 * (i : Int) + j < 32 := by omega
              go_wp2_with fail
              go_roundw
              case rel =>
                have := hO.set (4 * i + j) (.int .u8 (gi st' i / 2 ^ (24 - 8 * j) % 256))
                rw [b8_set, outN_set st' i j hst' hlt hlt'] at this
                exact ⟨j + 1, by omega, by go_num, hs.setCell (.inr hw6) _, this⟩
              case measure => simp [intOf]; omega
            · obtain rfl : j = 4 := by omega
              rw [outN_next st' i hst' hlt] at hO
              go_wp2_with fail
              go_roundw
              case rel => exact ⟨i + 1, by omega, by go_num, hs, hO⟩
              case measure => simp [intOf]; omega
        · obtain rfl : i = 8 := by omega
          have hcv := convert_blk (P := Try.prog) (src := 60) (e := 5) (dst := 9) (by kernel_rfl) (by kernel_rfl) (by kernel_rfl) hO 32 32 (by rw [outN_all st' hst', flat4_len]; omega)
          have hend : Kept ((outN st' 8 0).take 32 = shaL m) := ⟨by
            rw [List.take_of_length_le (by rw [outN_all st' hst', flat4_len]; omega), outN_all st' hst', hH6.stEq, hpb.out]; rfl⟩
          rw [hend.out] at hcv
          go_wp2_with fail
          go_ret
          exact ⟨rfl, hs⟩

set_option maxRecDepth 100000 in
set_option maxHeartbeats 1000000 in
theorem of_any (b : Nat) (s : ByteArray) (w : World) (hs : s.size ≤ 9223372036854775807) (hc : w.cell? ⟨b, 0, none⟩ = some (.string s)) :
    Calls Try.prog 97 #[.slice (some ⟨b, 0, none⟩) 1 1] w fun e w' => e = .returned (.string (sha s)) ∧ Same w w' := by
  have hlt := World.block_lt_of_cell? w _ hc
  go_enter Try.func97, Try.ntmps97
  go_wp2_with (go_at_call 128; refine (new_any _).mono ?_; rintro e w1 ⟨rfl, hs1, hb1, hsz⟩)
  go_loopw [9] (fun t wr => (t = .int .i64 0 ∧ Same w wr ∧ Blk wr w.heap.size 189 (hashCells shaInit (List.replicate 64 0) 0 0)) ∨
      (t = .int .i64 1 ∧ Same w wr ∧ ∃ st bl fill, HS (bts s) st bl fill ∧ Blk wr w.heap.size 189 (hashCells st bl (fill : Nat) ((s.size : Int) % 18446744073709551616)))) (fun t _ => 1 - (intOf t).toNat)
  case atStart => exact .inl ⟨rfl, hs1, hb1⟩
  case round =>
    rcases hrel with ⟨rfl, hsame, hb⟩ | ⟨rfl, hsame, st, bl, fill, hH, hb⟩
    · have hc' := hsame.cell' hc (fun f => f)
      go_wp2_with fail
      refine (write_any _ [] shaInit (List.replicate 64 0) 0 0 s _ hs HS.zero hb).mono ?_
      rintro e w2 ⟨rfl, hk, st, bl, fill, hH, hb2⟩
      have hs2 : Same w w2 := hsame.then hk fun i hi e => by omega
      go_wp2_with fail
      go_roundw
      case rel =>
        refine .inr ⟨rfl, hs2, st, bl, fill, ?_, ?_⟩
        · rw [List.nil_append] at hH; exact hH
        · rw [Int.zero_add] at hb2; exact hb2
      case measure => simp [intOf]
    · have hl : (bts s).length ≤ 9223372036854775807 := by rw [bts_len]; exact hs
      go_wp2_with (go_at_call 130; refine (sum_any _ (bts s) st bl fill _ _ hl (by rw [bts_len]) hH hb).mono ?_; rintro e w3 ⟨rfl, hs3⟩)
      go_ret
      exact ⟨rfl, hsame.trans hs3⟩

end Go.Proofs.Ytkokagbmmlngjaa
