/- The walks of package hash. -/
import Derived.Test.YtkokagbmmlngjaaSha2
import Derived.Test.YtkokagbmmlngjaaOwn
namespace Go.Proofs.Ytkokagbmmlngjaa
open Go.RowKit
set_option maxRecDepth 100000

/-- a text of one byte -/
def pre (n : Int) : ByteArray := txt [n]
def leafText (v : ByteArray) : ByteArray := pre 0 ++ v
def nodeText (a b : ByteArray) : ByteArray := pre 1 ++ a ++ b
def bagText (a b : ByteArray) : ByteArray := pre 2 ++ a ++ b
def rootText (n : Int) (d : ByteArray) : ByteArray := pre 3 ++ txt (beBytes n 8) ++ d
/-- the strength that a digest takes -/
def clampK (k : Int) : Nat := if k < 1 then 1 else if 32 < k then 32 else k.toNat
def hof (k : Int) (s : ByteArray) : ByteArray := (sha s).extract 0 (clampK k)
def hleaf (k : Int) (v : ByteArray) : ByteArray := hof k (leafText v)
def hnode (k : Int) (a b : ByteArray) : ByteArray := hof k (nodeText a b)
def bagged (k : Int) : List ByteArray → ByteArray
  | [] => ByteArray.empty
  | [d] => d
  | d :: e :: r => hof k (bagText d (bagged k (e :: r)))
def hroot (k : Int) (n : Int) (peaks : List ByteArray) : ByteArray := hof k (rootText n (bagged k peaks))

theorem pre_size (n : Int) : (pre n).size = 1 := rfl
theorem leafText_size (v : ByteArray) : (leafText v).size = 1 + v.size := by simp [leafText, pre_size, ByteArray.size_append]
theorem nodeText_size (a b : ByteArray) : (nodeText a b).size = 1 + a.size + b.size := by simp [nodeText, pre_size, ByteArray.size_append]
theorem bagText_size (a b : ByteArray) : (bagText a b).size = 1 + a.size + b.size := by simp [bagText, pre_size, ByteArray.size_append]
theorem rootText_size (n : Int) (d : ByteArray) : (rootText n d).size = 9 + d.size := by simp [rootText, pre_size, ByteArray.size_append, txt_size, beBytes_len]
theorem sha_size (s : ByteArray) : (sha s).size = 32 := by
  unfold sha shaL
  rw [txt_size, flat4_len, foldN_len]
theorem clampK_range (k : Int) : 1 ≤ clampK k ∧ clampK k ≤ 32 := by
  unfold clampK; split
  · omega
  · split <;> omega
theorem hof_size (k : Int) (s : ByteArray) : (hof k s).size = clampK k := by
  have := clampK_range k
  simp [hof, sha_size]; omega
theorem clampK_of (k : Int) (h1 : 1 ≤ k) (h2 : k ≤ 32) : clampK k = k.toNat := by
  unfold clampK; rw [if_neg (by omega), if_neg (by omega)]

set_option maxHeartbeats 400000 in
theorem first_any (n : Int) (w : World) :
    Calls Try.prog 124 #[.int .u8 n] w fun e w' => e = .returned (.string (pre n)) ∧ Same w w' := by
  have hcv : (convert 60 9 (.slice (some ⟨w.heap.size, 0, none⟩) 1 1)).run Try.prog (w.alloc (.cells #[.int .u8 n] 5)) = .ok (.string (pre n)) (w.alloc (.cells #[.int .u8 n] 5)) :=
    convert_blk (P := Try.prog) (src := 60) (e := 5) (dst := 9) (by kernel_rfl) (by kernel_rfl) (by kernel_rfl) (Blk.new w 5 (b8 [n])) 1 1 (by simp)
  go_enter Try.func124, Try.ntmps124
  go_wp2
  go_ret
  exact ⟨rfl, (Keeps.refl _ _).alloc _⟩

set_option maxHeartbeats 400000 in
theorem leafText_any (v : ByteArray) (w : World) (hv : v.size ≤ 1152921504606846976) :
    Calls Try.prog 82 #[.string v] w fun e w' => e = .returned (.string (leafText v)) ∧ Same w w' := by
  have hp : (pre 0).size ≤ 1 := by rw [pre_size]; omega
  go_enter Try.func82, Try.ntmps82
  go_wp2_with (go_at_call 124; refine (first_any _ _).mono ?_; rintro e w1 ⟨rfl, hs⟩)
  go_ret
  exact ⟨rfl, hs⟩

set_option maxHeartbeats 400000 in
theorem nodeText_any (a b : ByteArray) (w : World) (ha : a.size ≤ 1152921504606846976) (hb : b.size ≤ 1152921504606846976) :
    Calls Try.prog 81 #[.string a, .string b] w fun e w' => e = .returned (.string (nodeText a b)) ∧ Same w w' := by
  have hp : (pre 1).size ≤ 1 := by rw [pre_size]; omega
  have hp2 : (pre 1 ++ a).size ≤ 1 + a.size := by rw [ByteArray.size_append]; omega
  go_enter Try.func81, Try.ntmps81
  go_wp2_with (go_at_call 124; refine (first_any _ _).mono ?_; rintro e w1 ⟨rfl, hs⟩)
  go_ret
  exact ⟨rfl, hs⟩

set_option maxHeartbeats 400000 in
theorem bagText_any (a b : ByteArray) (w : World) (ha : a.size ≤ 1152921504606846976) (hb : b.size ≤ 1152921504606846976) :
    Calls Try.prog 96 #[.string a, .string b] w fun e w' => e = .returned (.string (bagText a b)) ∧ Same w w' := by
  have hp : (pre 2).size ≤ 1 := by rw [pre_size]; omega
  have hp2 : (pre 2 ++ a).size ≤ 1 + a.size := by rw [ByteArray.size_append]; omega
  go_enter Try.func96, Try.ntmps96
  go_wp2_with (go_at_call 124; refine (first_any _ _).mono ?_; rintro e w1 ⟨rfl, hs⟩)
  go_ret
  exact ⟨rfl, hs⟩

set_option maxHeartbeats 400000 in
theorem hof_any (k : Int) (s : ByteArray) (w : World) (hv : s.size ≤ 9223372036854775807) :
    Calls Try.prog 58 #[.int .i64 k, .string s] w fun e w' => e = .returned (.string (hof k s)) ∧ Same w w' := by
  have hz : Kept ((sha s).size = 32) := ⟨sha_size s⟩
  have hc1 : (w.alloc (.cells #[.string s] 9)).cell? ⟨w.heap.size, 0, none⟩ = some (.string s) := (Blk.new w 9 [.string s]).cell' rfl
  obtain ⟨d, hd⟩ : ∃ d, Kept (sha s = d) := ⟨_, ⟨rfl⟩⟩
  have hdz : 32 ≤ d.size := by rw [← hd.out, hz.out]; exact Nat.le_refl _
  have hdz' : d.size ≤ 32 := by rw [← hd.out, hz.out]; exact Nat.le_refl _
  have fin : ∀ {w1 : World}, Same (w.alloc (.cells #[.string s] 9)) w1 → Same w w1 := fun h => ((Keeps.refl _ _).alloc _).trans (h.mono fun _ _ f => f)
  have hof_eq : Kept (hof k s = d.extract 0 (clampK k)) := ⟨by rw [hof, hd.out]⟩
  by_cases h1 : k < 1
  · have e : Kept (clampK k = 1) := ⟨by unfold clampK; rw [if_pos h1]⟩
    go_enter Try.func58, Try.ntmps58
    go_wp2_with (go_at_call 97; refine (of_any _ s _ hv hc1).mono ?_; rintro e w1 ⟨rfl, hs⟩; rw [hd.out])
    go_ret
    exact ⟨by rw [hof_eq.out, e.out]; rfl, fin hs⟩
  · by_cases h2 : 32 < k
    · have e : Kept (clampK k = 32) := ⟨by unfold clampK; rw [if_neg h1, if_pos h2]⟩
      go_enter Try.func58, Try.ntmps58
      go_wp2_with (go_at_call 97; refine (of_any _ s _ hv hc1).mono ?_; rintro e w1 ⟨rfl, hs⟩; rw [hd.out])
      go_ret
      exact ⟨by rw [hof_eq.out, e.out]; rfl, fin hs⟩
    · have e : Kept (clampK k = k.toNat) := ⟨by unfold clampK; rw [if_neg h1, if_neg h2]⟩
      go_enter Try.func58, Try.ntmps58
      go_wp2_with (go_at_call 97; refine (of_any _ s _ hv hc1).mono ?_; rintro e w1 ⟨rfl, hs⟩; rw [hd.out])
      go_ret
      exact ⟨by rw [hof_eq.out, e.out]; rfl, fin hs⟩

set_option maxHeartbeats 400000 in
theorem check_any (k : Int) (w : World) :
    Calls Try.prog 78 #[.int .i64 k] w fun e w' => e = .returned (.int .i64 (if 1 ≤ k ∧ k ≤ 32 then 0 else 70)) ∧ w = w' := by
  by_cases h1 : k < 1
  · rw [if_neg (by omega)]
    go_enter Try.func78, Try.ntmps78
    go_wp2
    go_ret
    exact ⟨rfl, rfl⟩
  · by_cases h2 : 32 < k
    · rw [if_neg (by omega)]
      go_enter Try.func78, Try.ntmps78
      go_wp2
      go_ret
      exact ⟨rfl, rfl⟩
    · rw [if_pos (by omega)]
      go_enter Try.func78, Try.ntmps78
      go_wp2
      go_ret
      exact ⟨rfl, rfl⟩

set_option maxHeartbeats 400000 in
theorem hleaf_any (k : Int) (v : ByteArray) (w : World) (hv : v.size ≤ 1152921504606846976) :
    Calls Try.prog 33 #[.int .i64 k, .string v] w fun e w' => e = .returned (.string (hleaf k v)) ∧ Same w w' := by
  have hsz : (leafText v).size ≤ 9223372036854775807 := by rw [leafText_size]; omega
  go_enter Try.func33, Try.ntmps33
  go_wp2_with (first
    | (go_at_call 82; refine (leafText_any _ _ hv).mono ?_; rintro e w1 ⟨rfl, hs1⟩)
    | (go_at_call 58; refine (hof_any _ _ _ hsz).mono ?_; rintro e w2 ⟨rfl, hs2⟩))
  go_ret
  exact ⟨rfl, hs1.trans hs2⟩

set_option maxHeartbeats 400000 in
theorem hnode_any (k : Int) (a b : ByteArray) (w : World) (ha : a.size ≤ 1152921504606846976) (hb : b.size ≤ 1152921504606846976) :
    Calls Try.prog 28 #[.int .i64 k, .string a, .string b] w fun e w' => e = .returned (.string (hnode k a b)) ∧ Same w w' := by
  have hsz : (nodeText a b).size ≤ 9223372036854775807 := by rw [nodeText_size]; omega
  go_enter Try.func28, Try.ntmps28
  go_wp2_with (first
    | (go_at_call 81; refine (nodeText_any _ _ _ ha hb).mono ?_; rintro e w1 ⟨rfl, hs1⟩)
    | (go_at_call 58; refine (hof_any _ _ _ hsz).mono ?_; rintro e w2 ⟨rfl, hs2⟩))
  go_ret
  exact ⟨rfl, hs1.trans hs2⟩

def sizeN (n : Int) (i : Nat) : List Int := (beBytes n 8).take i ++ List.replicate (8 - i) 0
theorem sizeN_set (n : Int) (i : Nat) (hi : i < 8) : (sizeN n i).set i (n / 2 ^ (56 - 8 * i) % 256) = sizeN n (i + 1) := by
  have e : ((beBytes n 8).take i).length = i := by simp [beBytes_len]; omega
  unfold sizeN
  have := set_rep ((beBytes n 8).take i) (8 - (i + 1)) (n / 2 ^ (56 - 8 * i) % 256)
  rw [e] at this
  rw [show 8 - i = 8 - (i + 1) + 1 by omega, this, beBytes_take _ _ _ hi, show 8 * (8 - 1 - i) = 56 - 8 * i by omega]
theorem sizeN_at (n : Int) (i : Nat) (hi : i < 8) : (b8 (sizeN n i))[i]? = some (.int .u8 0) := by
  have e : ((beBytes n 8).take i).length = i := by simp [beBytes_len]; omega
  unfold sizeN b8
  rw [List.getElem?_map, List.getElem?_append_right (by omega), e, Nat.sub_self, List.getElem?_replicate, if_pos (by omega)]
  rfl

set_option maxHeartbeats 1000000 in
theorem rootText_any (n : Int) (d : ByteArray) (w : World) (hd : d.size ≤ 1152921504606846976) :
    Calls Try.prog 94 #[.int .u64 n, .string d] w fun e w' => e = .returned (.string (rootText n d)) ∧ Same w w' := by
  go_enter Try.func94, Try.ntmps94
  go_wp2
  go_loopw [7] (fun t wr => ∃ i : Nat, i ≤ 8 ∧ t = .int .i64 i ∧ Same w wr ∧ Blk wr w.heap.size 163 (b8 (sizeN n i))) (fun t _ => 8 - (intOf t).toNat)
  case atStart => exact ⟨0, by omega, rfl, (Keeps.refl _ _).alloc _, Blk.new w 163 (b8 (List.replicate 8 0))⟩
  case round =>
    obtain ⟨i, hi, rfl, hs, hB⟩ := hrel
    by_cases hlt : i < 8
    · have hci : wr.cell? ⟨w.heap.size, i, none⟩ = some (.int .u8 0) := hB.cell' (sizeN_at n i hlt)
      have hf := hB.frozen i
      have h56 : 0 ≤ 56 - 8 * (i : Int) := by omega
      go_wp2_with fail
      go_roundw
      case rel =>
        have := hB.set i (.int .u8 (n / 2 ^ (56 - 8 * i) % 256))
        rw [b8_set, sizeN_set n i hlt] at this
        exact ⟨i + 1, by omega, by go_num, hs.setCell (.inr (Nat.le_refl _)) _, this⟩
      case measure => simp [intOf]; omega
    · obtain rfl : i = 8 := by omega
      have hp : (pre 3).size ≤ 1 := by rw [pre_size]; omega
      have hp2 : (pre 3 ++ txt (beBytes n 8)).size ≤ 9 := by rw [ByteArray.size_append, pre_size, txt_size, beBytes_len]; omega
      have hp3 : (txt (beBytes n 8)).size ≤ 8 := by rw [txt_size, beBytes_len]; omega
      have e8 : Kept ((sizeN n 8).take 8 = beBytes n 8) := ⟨by unfold sizeN; rw [List.take_of_length_le (by simp [beBytes_len]), List.take_of_length_le (by simp [beBytes_len])]; simp⟩
      have hcv : ∀ w1, Blk w1 w.heap.size 163 (b8 (sizeN n 8)) → (convert 60 9 (.slice (some ⟨w.heap.size, 0, none⟩) 8 8)).run Try.prog w1 = .ok (.string (txt (beBytes n 8))) w1 := fun w1 h => by
        have := convert_blk (P := Try.prog) (src := 60) (e := 5) (dst := 9) (by kernel_rfl) (by kernel_rfl) (by kernel_rfl) h 8 8 (by simp [sizeN, beBytes_len])
        rw [e8.out] at this
        exact this
      go_wp2_with fail
      have hcv0 := hcv _ hB.drew
      have hcv1 : ∀ w1, Same wr.drew w1 → (convert 60 9 (.slice (some ⟨w.heap.size, 0, none⟩) 8 8)).run Try.prog w1 = .ok (.string (txt (beBytes n 8))) w1 := fun w1 h => hcv _ (h.blk hB.drew (fun f => f))
      have hs0 := hs.drew
      clear hcv
      go_region_with (first | (go_at_call 124; refine (first_any _ _).mono ?_; rintro e w1 ⟨rfl, hs1⟩; have hcv2 := hcv1 _ hs1))
      all_goals (go_wp2_with fail; go_ret; exact ⟨rfl, hs0.trans hs1⟩)

def strs (l : List ByteArray) : List Value := l.map .string
theorem strs_len (l : List ByteArray) : (strs l).length = l.length := by simp [strs]
theorem strs_at (l : List ByteArray) (i : Nat) (h : i < l.length) : (strs l)[i]? = some (.string l[i]) := by simp [strs, h]
theorem bagged_cons (k : Int) (d : ByteArray) (r : List ByteArray) (h : r ≠ []) : bagged k (d :: r) = hof k (bagText d (bagged k r)) := by
  cases r with
  | nil => exact absurd rfl h
  | cons e r => rfl
theorem bagged_size (k : Int) (l : List ByteArray) (h : ∀ x ∈ l, x.size ≤ 1152921504606846976) : (bagged k l).size ≤ 1152921504606846976 := by
  match l with
  | [] => simp [bagged]
  | [d] => exact h d (by simp)
  | d :: e :: r =>
    rw [bagged, hof_size]
    have := clampK_range k
    omega

set_option maxHeartbeats 1000000 in
theorem bagged_any (k : Int) (A : Option Addr) (c : Nat) (l : List ByteArray) (w : World) (hl : l.length ≤ 9223372036854775807) (hsz : ∀ x ∈ l, x.size ≤ 1152921504606846976) (hc : Cells w A (strs l)) :
    Calls Try.prog 95 #[.int .i64 k, .slice A l.length c] w fun e w' => e = .returned (.string (bagged k l)) ∧ Same w w' := by
  by_cases h0 : l = []
  · subst h0
    go_enter Try.func95, Try.ntmps95
    go_wp2
    go_ret
    exact ⟨rfl, Keeps.refl _ _⟩
  · have hpos : 0 < l.length := List.length_pos_iff.2 h0
    obtain ⟨b, o, rfl, hcell⟩ := hc.at_ (by intro h; exact h0 (by simpa [strs] using h))
    have hp : ((l.length : Int) == 0) = false := by rw [beq_eq_false_iff_ne]; omega
    have hlast : w.cell? ⟨b, o + (l.length - 1), none⟩ = some (.string (bagged k (l.drop (l.length - 1)))) := by
      rw [hcell _ _ (strs_at l (l.length - 1) (by omega)), List.drop_eq_getElem_cons (by omega), show l.length - 1 + 1 = l.length by omega, List.drop_length]
      rfl
    have Hc : Kept (∀ i, (h : i < l.length) → w.cell? ⟨b, o + i, none⟩ = some (.string l[i])) := ⟨fun i h => hcell i _ (strs_at l i h)⟩
    have hn0 : 0 ≤ (l.length : Int) - 1 := by omega
    have hn1 : ((l.length : Int) - 1).toNat = l.length - 1 := by omega
    have hn2 : (l.length : Int) - 1 < l.length := by omega
    clear hcell hc
    have hsz' : Kept (∀ x ∈ l, x.size ≤ 1152921504606846976) := ⟨hsz⟩
    clear hsz
    go_enter Try.func95, Try.ntmps95
    go_wp2
    go_loopw [5, 6] (fun d t wr => ∃ m : Nat, m + 1 ≤ l.length ∧ t = .int .i64 ((m : Int) - 1) ∧ Same w wr ∧ d = .string (bagged k (l.drop m))) (fun _ t _ => (intOf t + 1).toNat)
    case atStart => exact ⟨l.length - 1, by omega, by congr 1; omega, Keeps.refl _ _, rfl⟩
    case round =>
      obtain ⟨m, hm, rfl, hs, rfl⟩ := hrel
      by_cases hlt : 0 < m
      · obtain ⟨q, rfl⟩ : ∃ q, m = q + 1 := ⟨m - 1, by omega⟩
        have hq : q < l.length := by omega
        have hq1 : ((q + 1 : Nat) : Int) - 1 = q := by omega
        rw [hq1]
        have hcq : wr.cell? ⟨b, o + q, none⟩ = some (.string l[q]) := hs.cell' (Hc.out q hq) (fun f => f)
        have hx : l[q].size ≤ 1152921504606846976 := hsz'.out _ (List.getElem_mem hq)
        have hy : (bagged k (l.drop (q + 1))).size ≤ 1152921504606846976 := bagged_size k _ fun x hx => hsz'.out x (List.mem_of_mem_drop hx)
        have hstep : Kept (hof k (bagText l[q] (bagged k (l.drop (q + 1)))) = bagged k (l.drop q)) := ⟨by
          rw [List.drop_eq_getElem_cons hq, bagged_cons _ _ _ (by
            intro h
            have := congrArg List.length h
            simp at this
            omega)]⟩
        generalize l[q] = x at *
        generalize bagged k (l.drop (q + 1)) = y at *
        have hbt : (bagText x y).size ≤ 9223372036854775807 := by rw [bagText_size]; omega
        clear hq1
        go_wp2_with (first
          | (go_at_call 96; refine (bagText_any _ _ _ hx hy).mono ?_; rintro e w1 ⟨rfl, hs1⟩)
          | (go_at_call 58; refine (hof_any _ _ _ hbt).mono ?_; rintro e w2 ⟨rfl, hs2⟩))
        go_roundw
        case rel =>
          rw [hstep.out]
          exact ⟨q, by omega, rfl, (hs.trans hs1).trans hs2, rfl⟩
        case measure => simp [intOf]
      · obtain rfl : m = 0 := by omega
        go_wp2_with fail
        go_ret
        exact ⟨rfl, hs⟩

set_option maxHeartbeats 400000 in
theorem hroot_any (k n : Int) (A : Option Addr) (c : Nat) (l : List ByteArray) (w : World) (hl : l.length ≤ 9223372036854775807) (hsz : ∀ x ∈ l, x.size ≤ 1152921504606846976) (hc : Cells w A (strs l)) :
    Calls Try.prog 77 #[.int .i64 k, .int .u64 n, .slice A l.length c] w fun e w' => e = .returned (.string (hroot k n l)) ∧ Same w w' := by
  have hy := bagged_size k l hsz
  have hr : (rootText n (bagged k l)).size ≤ 9223372036854775807 := by rw [rootText_size]; omega
  have hsz' : Kept (∀ x ∈ l, x.size ≤ 1152921504606846976) := ⟨hsz⟩
  clear hsz
  go_enter Try.func77, Try.ntmps77
  go_wp2_with (first
    | (go_at_call 95; refine (bagged_any _ _ _ l _ hl hsz'.out hc).mono ?_; rintro e w1 ⟨rfl, hs1⟩)
    | (go_at_call 94; refine (rootText_any _ _ _ hy).mono ?_; rintro e w2 ⟨rfl, hs2⟩)
    | (go_at_call 58; refine (hof_any _ _ _ hr).mono ?_; rintro e w3 ⟨rfl, hs3⟩))
  go_ret
  exact ⟨rfl, (hs1.trans hs2).trans hs3⟩

end Go.Proofs.Ytkokagbmmlngjaa
