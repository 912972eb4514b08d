/- Own texts, part 5. -/
import Derived.Test.YtpijifiekgbjnaaDoorPart4
import Derived.Test.YtpijifiekgbjnaaDoorPart2

namespace Go.Abs
open Go.Proofs L8
def s6a : Spec := fun args => match args with
  | [.agg [.int .i64 _, .int .i64 _, .str s]] => some (.bool (shortB s), [])
  | _ => none
theorem o6a (m : Int) : SpecOk PZ (GZ m) 6 s6a := spec_of (X := XZ) (m := []) mixedZ tbl_nil itbl_nil fun args r h' => by
  unfold s6a at h'
  split at h'
  · injection h' with h'; subst h'; exact ⟨nAn, p6 m _ _ _⟩
  · cases h'
def or3 (a b c : Int) : Int := if a ≠ 0 then a else if b ≠ 0 then b else c
def s19 : Spec := fun args => match args with
  | [.sl 1 [.int .i64 a, .int .i64 b, .int .i64 c] _] => some (.int .i64 (or3 a b c), [])
  | _ => none
def s38 : Spec := fun args => match args with
  | [.int .i64 _] => some (.bool false, [])
  | _ => none
def cmpV (k n : Int) (s : List UInt8) (k' n' : Int) (s' : List UInt8) : Int := or3 (cmpI k k') (cmpI n n') (Lib.compareBytes s s')
def s7 : Spec := fun args => match args with
  | [.agg [.int .i64 k, .int .i64 n, .str s], .agg [.int .i64 k', .int .i64 n', .str s']] => some (.int .i64 (cmpV k n s k' n' s'), [])
  | _ => none
def a19 : Anns := ⟨fun q => if q = 3 then some { α := Unit, slots := [], nb := 0, vals := fun _ => [], sS := fun _ => ⟨[], []⟩, I := fun _ => True, μ := fun _ => 0, unroll := 4 } else none, nA⟩
end Go.Abs

namespace Go.Abs
open Go.Proofs L8
theorem w20 (m a b : Int) (r : AV) : (pureW PZ (GZ m) XT (tbl [(38, s38)]) (itbl []) nAn [] 20 [.int .i64 a, .int .i64 b] (r, [])) =
(∃ (b_1 : Bool),
  CallIs (some (AV.bool false, [])) (AV.bool b_1) [] ∧
    (b_1 = true →
        ∃ (b : Bool),
 CallIs (some (AV.bool false, [])) (AV.bool b) [] ∧
 (b = true → RetIs (AV.int IntKind.i64 (0 : Int)) [] (r, [])) ∧ (b = false → RetIs (AV.int IntKind.i64 (-1 : Int)) [] (r, []))) ∧
      (b_1 = false →
        ∃ (b_2 : Bool),
 CallIs (some (AV.bool false, [])) (AV.bool b_2) [] ∧
 (b_2 = true → RetIs (AV.int IntKind.i64 (1 : Int)) [] (r, [])) ∧
 (b_2 = false →
 (decide (a < b) = true → RetIs (AV.int IntKind.i64 (-1 : Int)) [] (r, [])) ∧
 (decide (a < b) = false →
 (decide (a > b) = true → RetIs (AV.int IntKind.i64 (1 : Int)) [] (r, [])) ∧
 (decide (a > b) = false → RetIs (AV.int IntKind.i64 (0 : Int)) [] (r, [])))))) := by kernel_rfl
theorem w19 (m a b c : Int) (r : AV) : (pureW PZ (GZ m) XT (tbl []) (itbl []) a19 [] 19 [.sl 1 [.int .i64 a, .int .i64 b, .int .i64 c] .no] (r, [])) =
((true = true →
    ((0 : Int) ≤ (0 : Int) ∧ (0 : Int) < (↑(3 : Nat) : Int)) ∧
      ∃ (n : Int),
        some (AV.int IntKind.i64 a) = some (AV.int IntKind.i64 n) ∧
 ((n != (0 : Int)) = true → RetIs (AV.int IntKind.i64 n) [] (r, [])) ∧
 ((n != (0 : Int)) = false →
 (true = true →
 ((0 : Int) ≤ (1 : Int) ∧ (1 : Int) < (↑(3 : Nat) : Int)) ∧
 ∃ (n : Int),
 some (AV.int IntKind.i64 b) = some (AV.int IntKind.i64 n) ∧
 ((n != (0 : Int)) = true → RetIs (AV.int IntKind.i64 n) [] (r, [])) ∧
 ((n != (0 : Int)) = false →
 (true = true →
 ((0 : Int) ≤ (2 : Int) ∧ (2 : Int) < (↑(3 : Nat) : Int)) ∧
 ∃ (n : Int),
 some (AV.int IntKind.i64 c) = some (AV.int IntKind.i64 n) ∧
 ((n != (0 : Int)) = true → RetIs (AV.int IntKind.i64 n) [] (r, [])) ∧
 ((n != (0 : Int)) = false →
 (false = true →
 ((0 : Int) ≤ (3 : Int) ∧ (3 : Int) < (↑(3 : Nat) : Int)) ∧
 ∃ (n : Int),
 none = some (AV.int IntKind.i64 n) ∧
 ((n != (0 : Int)) = true → RetIs (AV.int IntKind.i64 n) [] (r, [])) ∧ ((n != (0 : Int)) = false → False)) ∧
 (false = false → RetIs (AV.int IntKind.i64 (0 : Int)) [] (r, [])))) ∧
 (true = false → RetIs (AV.int IntKind.i64 (0 : Int)) [] (r, [])))) ∧
 (true = false → RetIs (AV.int IntKind.i64 (0 : Int)) [] (r, [])))) ∧
  (true = false → RetIs (AV.int IntKind.i64 (0 : Int)) [] (r, []))) := by kernel_rfl
theorem w7 (m k n k' n' : Int) (s s' : List UInt8) (r : AV) : (pureW PZ (GZ m) XT (tbl [(20, s20), (21, s21), (19, s19)]) (itbl []) nAn [] 7 [vA k n s, vA k' n' s'] (r, [])) =
(∃ (n_1 : Int),
  CallIs (some (AV.int IntKind.i64 (cmpI k k'), [])) (AV.int IntKind.i64 n_1) [] ∧
    ∃ (n_2 : Int),
      CallIs (some (AV.int IntKind.i64 (cmpI n n'), [])) (AV.int IntKind.i64 n_2) [] ∧
        ∃ (n : Int),
 CallIs (some (AV.int IntKind.i64 (Lib.compareBytes s s'), [])) (AV.int IntKind.i64 n) [] ∧
 ∃ (n_3 : Int), CallIs (some (AV.int IntKind.i64 (or3 n_1 n_2 n), [])) (AV.int IntKind.i64 n_3) [] ∧ RetIs (AV.int IntKind.i64 n_3) [] (r, [])) := by kernel_rfl
theorem w16 (m k n : Int) (s b t : List UInt8) (r : AV) : (pureW PZ (GZ m) XT (tbl [(11, s11), (17, s17), (13, s13), (10, s10), (9, s9)]) (itbl []) nAn [] 16 [vA k n s, .str b, .str t] (r, [])) =
(∃ (es : List AV),
  CallIs
      (tbl [(nat_lit 11, s11), (nat_lit 17, s17), (nat_lit 13, s13), (nat_lit 10, s10), (nat_lit 9, s9)] (nat_lit 11)
        [AV.sl (nat_lit 0) [] Own.nil, AV.agg [AV.int IntKind.i64 k, AV.int IntKind.i64 n, AV.str s]])
      (AV.sl (nat_lit 1) es (Own.tok (nat_lit 0))) [(es.length, nat_lit 5)] ∧
    ∃ (n_1 : Int),
      ∃ (n_2 : Int),
        ∃ (s_1 : List UInt8),
 ∃ (n_3 : Int),
 ∃ (n_4 : Int),
 CallIs
 (tbl [(nat_lit 11, s11), (nat_lit 17, s17), (nat_lit 13, s13), (nat_lit 10, s10), (nat_lit 9, s9)] (nat_lit 17)
 [AV.sl (nat_lit 1) es Own.no, AV.int IntKind.i64 (0 : Int)])
 (AV.tup [AV.agg [AV.int IntKind.i64 n_1, AV.int IntKind.i64 n_2, AV.str s_1], AV.int IntKind.i64 n_3, AV.int IntKind.i64 n_4]) [] ∧
 ∃ (n_5 : Int),
 ∃ (n_6 : Int),
 ∃ (s_2 : List UInt8),
 ∃ (n_7 : Int),
 CallIs (tbl [(nat_lit 11, s11), (nat_lit 17, s17), (nat_lit 13, s13), (nat_lit 10, s10), (nat_lit 9, s9)] (nat_lit 13) [AV.str t])
 (AV.tup [AV.agg [AV.int IntKind.i64 n_5, AV.int IntKind.i64 n_6, AV.str s_2], AV.int IntKind.i64 n_7]) [] ∧
 (nat_lit 1 = nat_lit 1 ∨ es = []) ∧
 ∃ (l : List UInt8),
 List.mapM byteOf es = some l ∧
 ((l == b) = true →
 ∃ (s_3 : List UInt8),
 CallIs
 (tbl [(nat_lit 11, s11), (nat_lit 17, s17), (nat_lit 13, s13), (nat_lit 10, s10), (nat_lit 9, s9)] (nat_lit 10)
 [AV.agg [AV.int IntKind.i64 k, AV.int IntKind.i64 n, AV.str s]])
 (AV.str s_3) [] ∧
 ((s_3 == t) = true →
 ((n_1 == k && (n_2 == n && (s_1 == s && true))) = true →
 ((n_3 == (↑es.length : Int)) = true →
 ((n_4 == (0 : Int)) = true →
 ((n_5 == k && (n_6 == n && (s_2 == s && true))) = true →
 ((n_7 == (0 : Int)) = true →
 ∃ (n_8 : Int),
 CallIs
 (tbl
 [(nat_lit 11, s11), (nat_lit 17, s17), (nat_lit 13, s13), (nat_lit 10, s10),
 (nat_lit 9, s9)]
 (nat_lit 9) [AV.agg [AV.int IntKind.i64 k, AV.int IntKind.i64 n, AV.str s]])
 (AV.int IntKind.i64 n_8) [] ∧
 ((n_8 == (0 : Int)) = true → RetIs (AV.bool true) [] (r, [])) ∧
 ((n_8 == (0 : Int)) = false → RetIs (AV.bool false) [] (r, []))) ∧
 ((n_7 == (0 : Int)) = false → RetIs (AV.bool false) [] (r, []))) ∧
 ((n_5 == k && (n_6 == n && (s_2 == s && true))) = false → RetIs (AV.bool false) [] (r, []))) ∧
 ((n_4 == (0 : Int)) = false → RetIs (AV.bool false) [] (r, []))) ∧
 ((n_3 == (↑es.length : Int)) = false → RetIs (AV.bool false) [] (r, []))) ∧
 ((n_1 == k && (n_2 == n && (s_1 == s && true))) = false → RetIs (AV.bool false) [] (r, []))) ∧
 ((s_3 == t) = false → RetIs (AV.bool false) [] (r, []))) ∧
 ((l == b) = false → RetIs (AV.bool false) [] (r, []))) := by kernel_rfl
end Go.Abs

namespace Go.Abs
open Go.Proofs L8 Go.Wire
theorem unzig_zig (n : Int) : unzig (zig n) = n := by
  unfold unzig zig
  by_cases h : 0 ≤ n
  · rw [if_pos h, if_neg (by omega)]; omega
  · rw [if_neg h, if_pos (by omega)]; omega
theorem drop_at (bs l : List UInt8) : (bs ++ l).drop bs.length = l := by simp
theorem uint_back {n : Nat} (h : n < 18446744073709551616) (rest : List UInt8) : uintP 10 (uintL n ++ rest) = .ok (n, (uintL n).length) := uintP_uintL 9 n rest (by simpa using h) (by omega)
theorem uintA_back {bs more : List UInt8} {n : Nat} (h : n < 18446744073709551616) : uintA (bs ++ (uintL n ++ more)) (bs.length : Int) = ((n : Int), (bs.length : Int) + (uintL n).length, 0) := by
  unfold uintA
  rw [if_neg (by simp; omega), Int.toNat_natCast, drop_at, uint_back h]
theorem sintA_back {bs more : List UInt8} {n : Int} (h : i64Ok n) : sintA (bs ++ (uintL (zig n) ++ more)) (bs.length : Int) = (n, (bs.length : Int) + (uintL (zig n)).length, 0) := by
  unfold sintA
  rw [uintA_back (zig_lt h)]
  simp only [Int.toNat_natCast, unzig_zig]
  rfl
theorem textA_back {bs more s : List UInt8} (h : s.length < 18446744073709551616) : textA (bs ++ (textL s ++ more)) (bs.length : Int) = (s, (bs.length : Int) + (textL s).length, 0) := by
  unfold textA textL
  rw [if_neg (by simp; omega), Int.toNat_natCast]
  unfold Z05.textR
  rw [drop_at, List.append_assoc, uint_back h]
  simp only []
  rw [if_neg (by simp; omega)]
  simp only []
  have e : (bs ++ (uintL s.length ++ (s ++ more))).drop (bs.length + (uintL s.length).length) = s ++ more := by
    rw [← List.append_assoc, show bs.length + (uintL s.length).length = (bs ++ uintL s.length).length by simp, drop_at]
  rw [e, List.take_left]
  simp; omega
theorem kindB {k : Int} (h0 : 0 ≤ k) (h : k < 256) : ((UInt8.ofNat (IntKind.u8.wrap k).toNat).toNat : Int) = k := by
  rw [← byteOf_int, wrapu8]; omega
/-- what stands behind the first byte -/
theorem readV_at {bs l : List UInt8} : readV (bs ++ l) (bs.length : Int) = finV (readX (bs ++ l) bs.length) := by
  unfold readV; rw [if_neg (by simp; omega)]
theorem getD_at (bs : List UInt8) (c : UInt8) (l : List UInt8) : (bs ++ c :: l).getD bs.length 0 = c := by
  rw [List.getD_eq_getElem?_getD, List.getElem?_append_right (Nat.le_refl _), Nat.sub_self]; rfl
theorem finV_ok {v : V3} {x : Int} (h : validB v.k v.n v.s = true) : finV (v, x, 0) = (v, x, 0) := by
  have hc : checkI v.k v.n v.s = 0 := by simpa [validB] using h
  unfold finV; simp only [hc, if_true]; rfl
theorem read_back {k n : Int} {s : List UInt8} (h : validB k n s = true) (bs more : List UInt8) : readV (bs ++ (encL k n s ++ more)) (bs.length : Int) = (⟨k, n, s⟩, (bs.length : Int) + (encL k n s).length, 0) := by
  rw [readV_at]
  have hlt : bs.length < (bs ++ (encL k n s ++ more)).length := by unfold encL; simp
  rcases valid_cases h with ⟨rfl, rfl, rfl⟩ | ⟨rfl, hn, rfl⟩ | ⟨hk, hn, rfl⟩ | ⟨rfl, rfl, hs⟩ | ⟨rfl, rfl, hs⟩
  · have e : encL 0 0 [] = [0] := by rfl
    rw [e] at hlt ⊢
    rw [show bs ++ ([0] ++ more) = bs ++ 0 :: more by rfl] at hlt ⊢
    rw [readX_0 hlt (by rw [getD_at]; rfl), getD_at]
    exact finV_ok h
  · have e : encL 1 n [] = [1, UInt8.ofNat n.toNat] := by rcases hn with rfl | rfl <;> rfl
    rw [e] at hlt ⊢
    have e2 : bs ++ ([1, UInt8.ofNat n.toNat] ++ more) = bs ++ 1 :: (UInt8.ofNat n.toNat :: more) := by rfl
    have e3 : bs ++ 1 :: (UInt8.ofNat n.toNat :: more) = (bs ++ [1]) ++ UInt8.ofNat n.toNat :: more := by simp
    rw [e2] at hlt ⊢
    have hg : (bs ++ 1 :: (UInt8.ofNat n.toNat :: more)).getD (bs.length + 1) 0 = UInt8.ofNat n.toNat := by
      rw [e3, show bs.length + 1 = (bs ++ [1]).length by simp, getD_at]
    have hN : ((UInt8.ofNat n.toNat).toNat : Int) = n := by rcases hn with rfl | rfl <;> rfl
    rw [readX_1 (by rw [e3]; simp) (by rw [getD_at]; rfl), getD_at, hg, if_neg (by omega), hN]
    exact finV_ok h
  · have hi := hn.i64
    have hk2 : 0 ≤ k ∧ k < 256 := by omega
    have e : encL k n [] = UInt8.ofNat (IntKind.u8.wrap k).toNat :: uintL (zig n) := by unfold encL; rw [if_neg (by omega), if_pos hk]
    rw [e] at hlt ⊢
    have hkb := kindB hk2.1 hk2.2
    generalize UInt8.ofNat (IntKind.u8.wrap k).toNat = c at *
    rw [show bs ++ (c :: uintL (zig n) ++ more) = bs ++ c :: (uintL (zig n) ++ more) by rfl] at hlt ⊢
    have e3 : bs ++ c :: (uintL (zig n) ++ more) = (bs ++ [c]) ++ (uintL (zig n) ++ more) := by simp
    rw [readX_n hlt (by rw [getD_at]; omega), getD_at]
    have hs := sintA_back (bs := bs ++ [c]) (more := more) hi
    rw [← e3, show ((bs ++ [c]).length : Int) = ((bs.length + 1 : Nat) : Int) by simp] at hs
    rw [hs, hkb]
    have := finV_ok (v := ⟨k, n, []⟩) (x := ((bs.length + 1 : Nat) : Int) + (uintL (zig n)).length) h
    rw [this]
    simp; omega
  all_goals
    have hl64 : s.length < 18446744073709551616 := by

      first
        | (unfold textB at hs; rw [Bool.and_eq_true, decide_eq_true_eq] at hs; omega)
        | (unfold keyB at hs; rw [Bool.and_eq_true, Bool.and_eq_true, decide_eq_true_eq, decide_eq_true_eq] at hs; omega)
  · have e : encL 4 0 s = 4 :: textL s := by rfl
    rw [e] at hlt ⊢
    rw [show bs ++ (4 :: textL s ++ more) = bs ++ 4 :: (textL s ++ more) by rfl] at hlt ⊢
    have e3 : bs ++ 4 :: (textL s ++ more) = (bs ++ [4]) ++ (textL s ++ more) := by simp
    rw [readX_t hlt (by rw [getD_at]; decide), getD_at]
    have ht := textA_back (bs := bs ++ [4]) (more := more) hl64
    rw [← e3, show ((bs ++ [(4 : UInt8)]).length : Int) = ((bs.length + 1 : Nat) : Int) by simp] at ht
    rw [ht]
    have := finV_ok (v := ⟨4, 0, s⟩) (x := ((bs.length + 1 : Nat) : Int) + (textL s).length) h
    refine Eq.trans this ?_
    simp; omega
  · have e : encL 5 0 s = 5 :: textL s := by rfl
    rw [e] at hlt ⊢
    rw [show bs ++ (5 :: textL s ++ more) = bs ++ 5 :: (textL s ++ more) by rfl] at hlt ⊢
    have e3 : bs ++ 5 :: (textL s ++ more) = (bs ++ [5]) ++ (textL s ++ more) := by simp
    rw [readX_t hlt (by rw [getD_at]; decide), getD_at]
    have ht := textA_back (bs := bs ++ [5]) (more := more) hl64
    rw [← e3, show ((bs ++ [(5 : UInt8)]).length : Int) = ((bs.length + 1 : Nat) : Int) by simp] at ht
    rw [ht]
    have := finV_ok (v := ⟨5, 0, s⟩) (x := ((bs.length + 1 : Nat) : Int) + (textL s).length) h
    refine Eq.trans this ?_
    simp; omega
end Go.Abs

namespace Go.Abs
open Go.Proofs L8 Go.Wire
end Go.Abs

namespace Go.Abs
open Go.Proofs L8
theorem o38 (m : Int) : SpecOk PZ (GZ m) 38 s38 := spec_of (X := XO) (m := []) mixedZ tbl_nil itbl_nil fun args r h => by
  unfold s38 at h
  split at h
  · injection h with h; subst h
    exact ⟨nAn, ⟨by rw [w38]; exact ⟨fun h => by simp at h, fun _ => ⟨rfl⟩⟩⟩⟩
  · cases h
theorem o20 (m : Int) : SpecOk PZ (GZ m) 20 s20 := spec_of (X := XT) (m := []) mixedZ (tbl_cons (o38 m) tbl_nil) itbl_nil fun args r h => by
  unfold s20 at h
  split at h
  · rename_i a b
    injection h with h; subst h
    refine ⟨nAn, ⟨?_⟩⟩
    rw [w20]
    simp only [decide_eq_true_eq, decide_eq_false_iff_not, gt_iff_lt]
    refine ⟨false, ⟨rfl⟩, fun h => (nomatch h), fun _ => ⟨false, ⟨rfl⟩, fun h => (nomatch h), fun _ => ⟨fun h1 => ⟨?_⟩, fun h1 => ⟨fun h2 => ⟨?_⟩, fun h2 => ⟨?_⟩⟩⟩⟩⟩
    · unfold cmpI; rw [if_pos h1]
    · unfold cmpI; rw [if_neg h1, if_pos h2]
    · unfold cmpI; rw [if_neg h1, if_neg h2]
  · cases h
theorem p19 (m a b c : Int) : PureOk PZ (GZ m) XT (tbl []) (itbl []) a19 [] 19 [.sl 1 [.int .i64 a, .int .i64 b, .int .i64 c] .no] (.int .i64 (or3 a b c), []) := by
  constructor
  rw [w19]
  simp only [bne_iff_ne, bne_eq_false_iff_eq, ne_eq]
  refine ⟨fun _ => ⟨⟨by omega, by decide⟩, a, rfl, fun h => ⟨?_⟩, fun h => ⟨fun _ => ⟨⟨by omega, by decide⟩, b, rfl, fun h2 => ⟨?_⟩, fun h2 => ⟨fun _ => ⟨⟨by omega, by decide⟩, c, rfl, fun h3 => ⟨?_⟩, fun h3 => ⟨fun h => (nomatch h), fun _ => ⟨?_⟩⟩⟩, fun h => (nomatch h)⟩⟩, fun h => (nomatch h)⟩⟩, fun h => (nomatch h)⟩
  · unfold or3; rw [if_pos h]
  · unfold or3; rw [if_neg (by simpa using h), if_pos h2]
  · unfold or3; rw [if_neg (by simpa using h), if_neg (by simpa using h2)]
  · unfold or3; rw [if_neg (by simpa using h), if_neg (by simpa using h2), h3]
theorem o19 (m : Int) : SpecOk PZ (GZ m) 19 s19 := spec_ofW (X := XT) (m := []) [1] mixedZ tbl_nil itbl_nil fun args r h => by
  unfold s19 at h
  split at h
  · injection h with h; subst h
    exact ⟨a19, p19 m _ _ _⟩
  · cases h
theorem o7 (m : Int) : SpecOk PZ (GZ m) 7 s7 := spec_of (X := XT) (m := []) mixedZ (tbl_cons (o20 m) (tbl_cons (o21 m) (tbl_cons (o19 m) tbl_nil))) itbl_nil fun args r h => by
  unfold s7 at h
  split at h
  · injection h with h; subst h
    refine ⟨nAn, ⟨?_⟩⟩
    rw [w7]
    exact ⟨_, ⟨rfl⟩, _, ⟨rfl⟩, _, ⟨rfl⟩, _, ⟨rfl⟩, ⟨rfl⟩⟩
  · cases h
theorem s18_at {k n : Int} {bs s : List UInt8} {sz : Nat} {o : Own} (hz : sz = 1 ∨ bytesL bs = []) (h1 : smallOk bs) (h2 : strOk s) (h3 : i64Ok n) : s11 [.sl sz (bytesL bs) o, .agg [.int .i64 k, .int .i64 n, .str s]] = some (ownR (appL bs k n s)) := by
  simp only [s11, sApp, onBytes, unBytes_mk, hz, h1, h2, h3, and_self, if_true]
theorem s22_at {k n : Int} {s : List UInt8} (h2 : strOk s) (h3 : i64Ok n) : s10 [.agg [.int .i64 k, .int .i64 n, .str s]] = some (.str (fmtL k n s), []) := by
  simp only [s10, sVal', h2, h3, and_self, if_true]
theorem s20_at {s : List UInt8} (h2 : strOk s) : s13 [.str s] = some (.tup [aV (parseV s).1, .int .i64 (parseV s).2], []) := by
  simp only [s13, h2, if_true]
theorem s16_at {bs : List UInt8} {at_ : Int} {o : Own} (h : strOk bs) : s17 [.sl 1 (bytesL bs) o, .int .i64 at_] = some (rVal (readV bs at_), []) := sRd_at h
theorem app_valid {bs s : List UInt8} {k n : Int} (h : validB k n s = true) : appL bs k n s = bs ++ encL k n s := by unfold appL; rw [if_pos h]
theorem nil_small : smallOk [] := by show ([] : List UInt8).length ≤ _; simp
/-- one: a valid value with its encoding and its text -/
def s16 : Spec := fun args => match args with
  | [.agg [.int .i64 k, .int .i64 n, .str s], .str b, .str t] => if strOk s ∧ i64Ok n ∧ strOk t ∧ validB k n s = true ∧ encL k n s = b ∧ fmtL k n s = t then some (.bool true, []) else none
  | _ => none
theorem p16 (m k n : Int) (s b t : List UInt8) (hs : strOk s) (hn : i64Ok n) (ht : strOk t) (hv : validB k n s = true) (he : encL k n s = b) (hf : fmtL k n s = t) : PureOk PZ (GZ m) XT (tbl [(11, s11), (17, s17), (13, s13), (10, s10), (9, s9)]) (itbl []) nAn [] 16 [vA k n s, .str b, .str t] (.bool true, []) := by
  have ha : appL [] k n s = b := by rw [app_valid hv, List.nil_append, he]
  have hb : b.length ≤ 300 := by rw [← he]; exact valid_len hv hs hn
  have hb' : strOk b := by show b.length ≤ _; omega
  have t1 : tbl [(11, s11), (17, s17), (13, s13), (10, s10), (9, s9)] 11 [.sl 0 [] .nil, .agg [.int .i64 k, .int .i64 n, .str s]] = some (ownR b) := by
    rw [tbl_hit, ← ha]; exact s18_at (bs := []) (.inr rfl) nil_small hs hn
  have t2 : tbl [(11, s11), (17, s17), (13, s13), (10, s10), (9, s9)] 17 [.sl 1 (bytesL b) .no, .int .i64 0] = some (rVal (⟨k, n, s⟩, (b.length : Int), 0), []) := by
    rw [tbl_miss (by decide), tbl_hit, s16_at hb']
    have := read_back hv [] []
    rw [List.nil_append, List.append_nil, he] at this
    have h0 : (([] : List UInt8).length : Int) = 0 := rfl
    rw [h0, Int.zero_add] at this
    rw [this]
  have t3 : tbl [(11, s11), (17, s17), (13, s13), (10, s10), (9, s9)] 13 [.str t] = some (.tup [vA k n s, .int .i64 0], []) := by
    rw [tbl_miss (by decide), tbl_miss (by decide), tbl_hit, s20_at ht, ← hf, parse_fmt hv]; rfl
  have t4 : tbl [(11, s11), (17, s17), (13, s13), (10, s10), (9, s9)] 10 [.agg [.int .i64 k, .int .i64 n, .str s]] = some (.str t, []) := by
    rw [tbl_miss (by decide), tbl_miss (by decide), tbl_miss (by decide), tbl_hit, s22_at hs hn, hf]
  have t5 : tbl [(11, s11), (17, s17), (13, s13), (10, s10), (9, s9)] 9 [.agg [.int .i64 k, .int .i64 n, .str s]] = some (.int .i64 0, []) := by
    rw [tbl_miss (by decide), tbl_miss (by decide), tbl_miss (by decide), tbl_miss (by decide), tbl_hit, s12_at hs]
    have : checkI k n s = 0 := by simpa [validB] using hv
    rw [this]
  constructor
  rw [w16, t1]
  refine ⟨bytesL b, own_call rfl, _, _, _, _, _, by rw [t2]; exact ⟨rfl⟩, _, _, _, _, by rw [t3]; exact ⟨rfl⟩, .inl rfl, b, mapM_byteL b, fun _ => ⟨t, by rw [t4]; exact ⟨rfl⟩, fun _ => ⟨fun _ => ⟨fun _ => ⟨fun _ => ⟨fun _ => ⟨fun _ => ⟨0, by rw [t5]; exact ⟨rfl⟩, fun _ => ⟨rfl⟩, fun h => ?_⟩, fun h => ?_⟩, fun h => ?_⟩, fun h => ?_⟩, fun h => ?_⟩, fun h => ?_⟩, fun h => ?_⟩, fun h => ?_⟩
  all_goals (simp [] at h)
theorem o16 (m : Int) : SpecOk PZ (GZ m) 16 s16 := spec_of (X := XT) (m := []) mixedZ (tbl_cons (o11 m) (tbl_cons (o17 m) (tbl_cons (o13 m) (tbl_cons (o10 m) (tbl_cons (o9 m) tbl_nil))))) itbl_nil fun args r h => by
  unfold s16 at h
  split at h
  · split at h
    · rename_i hc
      injection h with h; subst h
      exact ⟨nAn, p16 m _ _ _ _ _ hc.1 hc.2.1 hc.2.2.1 hc.2.2.2.1 hc.2.2.2.2.1 hc.2.2.2.2.2⟩
    · cases h
  · cases h
def XE : Shapes := fun f => match f with
  | 16 => some shB
  | 5 => some shB
  | f => XT f
end Go.Abs

namespace Go.Abs
open Go.Proofs L8
theorem w5 (m : Int) (r : AV) : (pureW PZ (GZ m) XE (tbl [(16, s16), (17, s17), (13, s13), (9, s9), (10, s10), (11, s11), (7, s7), (18, s18)]) (itbl []) nAn [] 5 [] (r, [])) =
(∃ (b : Bool),
  CallIs (some (AV.bool true, [])) (AV.bool b) [] ∧
    (b = true →
        ∃ (b : Bool),
 CallIs (some (AV.bool true, [])) (AV.bool b) [] ∧
 (b = true →
 ∃ (b : Bool),
 CallIs (some (AV.bool true, [])) (AV.bool b) [] ∧
 (b = true →
 ∃ (b : Bool),
 CallIs (some (AV.bool true, [])) (AV.bool b) [] ∧
 (b = true →
 ∃ (b : Bool),
 CallIs (some (AV.bool true, [])) (AV.bool b) [] ∧
 (b = true →
 ∃ (b : Bool),
 CallIs (some (AV.bool true, [])) (AV.bool b) [] ∧
 (b = true →
 ∃ (n : Int),
 ∃ (n_1 : Int),
 ∃ (s : List UInt8),
 ∃ (n_2 : Int),
 ∃ (n_3 : Int),
 CallIs
 (some
 (AV.tup
 [AV.agg [AV.int IntKind.i64 (0 : Int), AV.int IntKind.i64 (0 : Int), AV.str []],
 AV.int IntKind.i64 (0 : Int), AV.int IntKind.i64 (3 : Int)],
 []))
 (AV.tup
 [AV.agg [AV.int IntKind.i64 n, AV.int IntKind.i64 n_1, AV.str s], AV.int IntKind.i64 n_2,
 AV.int IntKind.i64 n_3])
 [] ∧
 ∃ (n : Int),
 ∃ (n_4 : Int),
 ∃ (s : List UInt8),
 ∃ (n_5 : Int),
 CallIs
 (some
 (AV.tup
 [AV.agg [AV.int IntKind.i64 (0 : Int), AV.int IntKind.i64 (0 : Int), AV.str []],
 AV.int IntKind.i64 (3 : Int)],
 []))
 (AV.tup
 [AV.agg [AV.int IntKind.i64 n, AV.int IntKind.i64 n_4, AV.str s],
 AV.int IntKind.i64 n_5])
 [] ∧
 ∃ (n : Int),
 ∃ (n_6 : Int),
 ∃ (s : List UInt8),
 ∃ (n_7 : Int),
 CallIs
 (some
 (AV.tup
 [AV.agg
 [AV.int IntKind.i64 (0 : Int), AV.int IntKind.i64 (0 : Int),
 AV.str []],
 AV.int IntKind.i64 (3 : Int)],
 []))
 (AV.tup
 [AV.agg [AV.int IntKind.i64 n, AV.int IntKind.i64 n_6, AV.str s],
 AV.int IntKind.i64 n_7])
 [] ∧
 ∃ (n : Int),
 CallIs (some (AV.int IntKind.i64 (1 : Int), [])) (AV.int IntKind.i64 n) [] ∧
 ((n != (1 : Int)) = true → RetIs (AV.bool false) [] (r, [])) ∧
 ((n != (1 : Int)) = false →
 ∃ (s : List UInt8),
 CallIs (some (AV.str [], [])) (AV.str s) [] ∧
 ((!s == []) = true → RetIs (AV.bool false) [] (r, [])) ∧
 ((!s == []) = false →
 ∃ (es : List AV),
 CallIs
 (some
 (AV.sl (nat_lit 1) [] (Own.tok (nat_lit 0)),
 [(nat_lit 0, nat_lit 5)]))
 (AV.sl (nat_lit 1) es (Own.tok (nat_lit 0)))
 [(es.length, nat_lit 5)] ∧
 (((↑es.length : Int) != (0 : Int)) = true →
 RetIs (AV.bool false) [] (r, [])) ∧
 (((↑es.length : Int) != (0 : Int)) = false →
 ((n_3 != (3 : Int)) = true →
 RetIs (AV.bool false) [] (r, [])) ∧
 ((n_3 != (3 : Int)) = false →
 ((n_5 != (3 : Int)) = true →
 RetIs (AV.bool false) [] (r, [])) ∧
 ((n_5 != (3 : Int)) = false →
 ((n_7 != (3 : Int)) = true →
 RetIs (AV.bool false) [] (r, [])) ∧
 ((n_7 != (3 : Int)) = false →
 ∃ (n : Int),
 CallIs
 (some
 (AV.int IntKind.i64
 (cmpV (2 : Int) (5 : Int) []
 (3 : Int) (0 : Int) []),
 []))
 (AV.int IntKind.i64 n) [] ∧
 ((n == (-1 : Int)) = true →
 ∃ (n : Int),
 CallIs
 (some
 (AV.int IntKind.i64
 (cmpV (4 : Int)
 (0 : Int)
 (ByteArray.mk #[(97 :
 UInt8)]).data.toList
 (4 : Int) (0 : Int)
 (ByteArray.mk #[(97 :
 UInt8),
 (98 :
 UInt8)]).data.toList),
 []))
 (AV.int IntKind.i64 n) [] ∧
 ((n == (-1 : Int)) = true →
 ∃ (b : Bool),
 CallIs
 (some
 (AV.bool true, []))
 (AV.bool b) [] ∧
 (b = true →
 ∃ (b : Bool),
 CallIs
 (some
 (AV.bool
 false,
 []))
 (AV.bool b)
 [] ∧
 (b = true →
 RetIs
 (AV.bool
 false)
 []
 (r, [])) ∧
 (b = false →
 RetIs
 (AV.bool
 true)
 []
 (r,
 []))) ∧
 (b = false →
 RetIs
 (AV.bool false) []
 (r, []))) ∧
 ((n == (-1 : Int)) = false →
 RetIs (AV.bool false) []
 (r, []))) ∧
 ((n == (-1 : Int)) = false →
 RetIs (AV.bool false) []
 (r, []))))))))) ∧
 (b = false → RetIs (AV.bool false) [] (r, []))) ∧
 (b = false → RetIs (AV.bool false) [] (r, []))) ∧
 (b = false → RetIs (AV.bool false) [] (r, []))) ∧
 (b = false → RetIs (AV.bool false) [] (r, []))) ∧
 (b = false → RetIs (AV.bool false) [] (r, []))) ∧
      (b = false → RetIs (AV.bool false) [] (r, []))) := by kernel_rfl
end Go.Abs

namespace Go.Abs
open Go.Proofs L8
theorem w18x (m k n t : Int) (s : List UInt8) (x y : AV) : (pureW PZ (GZ m) XZ (tbl [(9, s9)]) (itbl []) nAn [] 18 [vA k n s, .agg [.int .i64 t, x, y]] (.bool (validB k n s && (decide (k = 0) || decide (k = t))), [])) =
(∃ (n_1 : Int),
  CallIs (tbl [(nat_lit 9, s9)] (nat_lit 9) [AV.agg [AV.int IntKind.i64 k, AV.int IntKind.i64 n, AV.str s]]) (AV.int IntKind.i64 n_1) [] ∧
    ((n_1 == (0 : Int)) = true →
        ((k == (0 : Int)) = true → RetIs (AV.bool true) [] (AV.bool (validB k n s && (decide (k = (0 : Int)) || decide (k = t))), [])) ∧
 ((k == (0 : Int)) = false →
 ((k == t) = true → RetIs (AV.bool true) [] (AV.bool (validB k n s && (decide (k = (0 : Int)) || decide (k = t))), [])) ∧
 ((k == t) = false → RetIs (AV.bool false) [] (AV.bool (validB k n s && (decide (k = (0 : Int)) || decide (k = t))), [])))) ∧
      ((n_1 == (0 : Int)) = false → RetIs (AV.bool false) [] (AV.bool (validB k n s && (decide (k = (0 : Int)) || decide (k = t))), []))) := by kernel_rfl
end Go.Abs

namespace Go.Abs
open Go.Proofs L8
theorem p5 (m : Int) : PureOk PZ (GZ m) XE (tbl [(16, s16), (17, s17), (13, s13), (9, s9), (10, s10), (11, s11), (7, s7), (18, s18)]) (itbl []) nAn [] 5 [] (.bool true, []) := by
  constructor
  rw [w5]
  have e1 : cmpV 2 5 [] 3 0 [] = -1 := by decide
  have e2 : cmpV 4 0 [97] 4 0 [97, 98] = -1 := by decide
  refine ⟨true, ⟨rfl⟩, fun _ => ⟨true, ⟨rfl⟩, fun _ => ⟨true, ⟨rfl⟩, fun _ => ⟨true, ⟨rfl⟩, fun _ => ⟨true, ⟨rfl⟩, fun _ => ⟨true, ⟨rfl⟩, fun _ => ?_, fun h => (nomatch h)⟩, fun h => (nomatch h)⟩, fun h => (nomatch h)⟩, fun h => (nomatch h)⟩, fun h => (nomatch h)⟩, fun h => (nomatch h)⟩
  refine ⟨_, _, _, _, _, ⟨rfl⟩, _, _, _, _, ⟨rfl⟩, _, _, _, _, ⟨rfl⟩, _, ⟨rfl⟩, fun h => absurd h (by decide), fun _ => ⟨_, ⟨rfl⟩, fun h => absurd h (by decide), fun _ => ⟨[], ⟨rfl⟩, fun h => absurd h (by decide), fun _ => ⟨fun h => absurd h (by decide), fun _ => ⟨fun h => absurd h (by decide), fun _ => ⟨fun h => absurd h (by decide), fun _ => ?_⟩⟩⟩⟩⟩⟩
  rw [e1]
  refine ⟨_, ⟨rfl⟩, fun _ => ?_, fun h => absurd h (by decide)⟩
  refine ⟨-1, ⟨by rw [← e2]⟩, fun _ => ?_, fun h => absurd h (by decide)⟩
  exact ⟨true, ⟨rfl⟩, fun _ => ⟨false, ⟨rfl⟩, fun h => (nomatch h), fun _ => ⟨rfl⟩⟩, fun h => (nomatch h)⟩
def s5 : Spec := fun args => match args with
  | [] => some (.bool true, [])
  | _ => none
theorem p18x (m k n t : Int) (s : List UInt8) (x y : AV) (hs : strOk s) : PureOk PZ (GZ m) XZ (tbl [(9, s9)]) (itbl []) nAn [] 18 [vA k n s, .agg [.int .i64 t, x, y]] (.bool (validB k n s && (decide (k = 0) || decide (k = t))), []) := by
  constructor
  rw [w18x]
  have t : tbl [(9, s9)] 9 [vA k n s] = some (.int .i64 (checkI k n s), []) := by rw [tbl_hit]; simp only [s9, sVal]; rw [if_pos hs]
  simp only [t, callIs_iff, retIs_iff, Option.some.injEq, Prod.mk.injEq, AV.bool.injEq, AV.int.injEq, and_true, true_and, exists_eq_left', beq_iff_eq, beq_eq_false_iff_ne, ne_eq, validB]
  refine ⟨fun h => ⟨fun h1 => ?_, fun h1 => ⟨fun h2 => ?_, fun h2 => ?_⟩⟩, fun h => ?_⟩
  all_goals simp_all
theorem o18 (m : Int) : SpecOk PZ (GZ m) 18 s18 := spec_of (X := XZ) (m := []) mixedZ (tbl_cons (o9 m) tbl_nil) itbl_nil fun args r h => by
  unfold s18 at h
  split at h
  · split at h
    · rename_i hs
      injection h with h; subst h
      exact ⟨nAn, p18x m _ _ _ _ _ _ hs⟩
    · cases h
  · cases h
theorem o5 (m : Int) : SpecOk PZ (GZ m) 5 s5 := spec_of (X := XE) (m := []) mixedZ (tbl_cons (o16 m) (tbl_cons (o17 m) (tbl_cons (o13 m) (tbl_cons (o9 m) (tbl_cons (o10 m) (tbl_cons (o11 m) (tbl_cons (o7 m) (tbl_cons (o18 m) tbl_nil)))))))) itbl_nil fun args r h => by
  unfold s5 at h
  split at h
  · injection h with h; subst h; exact ⟨nAn, p5 m⟩
  · cases h
end Go.Abs

namespace Go.Abs
open Go.Proofs Go.Wire
def s22' : Spec := fun args => match args with
  | [.int .i64 a, .int .i64 b] => some (.int .i64 (cmpI a b), [])
  | _ => none
def XV : Shapes := fun f => match f with
  | 5 => some shB
  | 7 | 8 | 22 => some shI
  | f => XT f
end Go.Abs

namespace Go.Abs
open Go.Proofs Go.Wire
theorem cB_rng : ∀ a b : List UInt8, Lib.compareBytes a b = -1 ∨ Lib.compareBytes a b = 0 ∨ Lib.compareBytes a b = 1
  | [], [] => .inr (.inl rfl)
  | [], _ :: _ => .inl rfl
  | _ :: _, [] => .inr (.inr rfl)
  | a :: x, b :: y => by
    unfold Lib.compareBytes
    split
    · exact .inl rfl
    · split
      · exact .inr (.inr rfl)
      · exact cB_rng x y
theorem u8_asymm {a b : UInt8} (h : a < b) : ¬ b < a := by
  rw [UInt8.lt_iff_toNat_lt] at *; omega
theorem u8_eq {a b : UInt8} (h : ¬ a < b) (k : ¬ b < a) : a = b := by
  rw [UInt8.lt_iff_toNat_lt] at *
  exact UInt8.toNat_inj.1 (by omega)
theorem cB_less : ∀ a b : List UInt8, Op.bytesLess a b = decide (Lib.compareBytes a b = -1)
  | [], [] => rfl
  | [], _ :: _ => rfl
  | _ :: _, [] => rfl
  | a :: x, b :: y => by
    rw [Op.bytesLess, Lib.compareBytes, cB_less x y]
    by_cases h : a < b
    · simp [h]
    · by_cases k : b < a
      · have : a ≠ b := fun e => by subst e; exact absurd k h
        simp [h, k, this]
      · have := u8_eq h k
        subst this
        simp [h]
theorem cB_neg : ∀ a b : List UInt8, Lib.compareBytes b a = - Lib.compareBytes a b
  | [], [] => rfl
  | [], _ :: _ => rfl
  | _ :: _, [] => rfl
  | a :: x, b :: y => by
    rw [Lib.compareBytes, Lib.compareBytes, cB_neg x y]
    by_cases h : a < b
    · simp [h, u8_asymm h]
    · by_cases k : b < a
      · simp [h, k]
      · simp [h, k]
theorem cB_zero : ∀ a b : List UInt8, Lib.compareBytes a b = 0 ↔ a = b
  | [], [] => by simp [Lib.compareBytes]
  | [], _ :: _ => by simp [Lib.compareBytes]
  | _ :: _, [] => by simp [Lib.compareBytes]
  | a :: x, b :: y => by
    rw [Lib.compareBytes, List.cons.injEq, ← cB_zero x y]
    by_cases h : a < b
    · have : a ≠ b := fun e => by subst e; exact u8_asymm h h
      simp [h, this]
    · by_cases k : b < a
      · have : a ≠ b := fun e => by subst e; exact absurd k h
        simp [h, k, this]
      · have := u8_eq h k
        subst this
        simp [h]
theorem cB_trans : ∀ a b c : List UInt8, Lib.compareBytes a b ≤ 0 → Lib.compareBytes b c ≤ 0 → Lib.compareBytes a c ≤ 0
  | [], _, [], _, _ => by simp [Lib.compareBytes]
  | [], _, _ :: _, _, _ => by simp [Lib.compareBytes]
  | _ :: _, [], _, h, _ => by simp [Lib.compareBytes] at h
  | _ :: _, _ :: _, [], _, h => by simp [Lib.compareBytes] at h
  | a :: x, b :: y, c :: z, h, k => by
    rw [Lib.compareBytes] at h k ⊢
    by_cases h1 : a < b
    · have hac : a < c := by
        by_cases h3 : b < c
        · rw [UInt8.lt_iff_toNat_lt] at *; omega
        · by_cases h4 : c < b
          · simp [h3, h4] at k
          · have := u8_eq h3 h4; subst this; exact h1
      simp [hac]
    · by_cases h2 : b < a
      · simp [h1, h2] at h
      · have := u8_eq h1 h2
        subst this
        simp only [h1, if_false] at h
        by_cases h3 : a < c
        · simp [h3]
        · by_cases h4 : c < a
          · simp [h3, h4] at k
          · simp only [h3, h4, if_false] at k ⊢
            exact cB_trans x y z h k
theorem cI_rng (a b : Int) : cmpI a b = -1 ∨ cmpI a b = 0 ∨ cmpI a b = 1 := by unfold cmpI; split <;> (try split) <;> simp
theorem cI_neg (a b : Int) : cmpI b a = - cmpI a b := by
  unfold cmpI
  by_cases h : a < b
  · have : ¬ b < a := by omega
    simp [h, this]
  · by_cases k : b < a
    · simp [h, k]
    · simp [h, k]
theorem cI_zero (a b : Int) : cmpI a b = 0 ↔ a = b := by
  unfold cmpI
  by_cases h : a < b
  · simp [h]; omega
  · by_cases k : b < a
    · simp [h, k]; omega
    · simp [h, k]; omega
theorem cI_lt (a b : Int) : cmpI a b < 0 ↔ a < b := by
  unfold cmpI
  by_cases h : a < b
  · simp [h]
  · by_cases k : b < a
    · simp [h, k]
    · simp [h, k]
/-- lexicographic: of three -/
theorem or3_neg (a b c : Int) : or3 (-a) (-b) (-c) = - or3 a b c := by
  unfold or3
  by_cases ha : a = 0
  · by_cases hb : b = 0
    · simp [ha, hb]
    · simp [ha, hb]
  · simp [ha]
theorem cV_neg (k n k' n' : Int) (s s' : List UInt8) : cmpV k' n' s' k n s = - cmpV k n s k' n' s' := by
  unfold cmpV; rw [cI_neg k k', cI_neg n n', cB_neg s s', or3_neg]
theorem cV_zero (k n k' n' : Int) (s s' : List UInt8) : cmpV k n s k' n' s' = 0 ↔ (k = k' ∧ n = n' ∧ s = s') := by
  rw [← cI_zero k k', ← cI_zero n n', ← cB_zero s s']
  unfold cmpV or3
  generalize cmpI k k' = a; generalize cmpI n n' = b; generalize Lib.compareBytes s s' = c
  by_cases ha : a = 0
  · by_cases hb : b = 0
    · simp [ha, hb]
    · simp [ha, hb]
  · simp [ha]
theorem cV_rng (k n k' n' : Int) (s s' : List UInt8) : -1 ≤ cmpV k n s k' n' s' ∧ cmpV k n s k' n' s' ≤ 1 := by
  have h1 := cI_rng k k'; have h2 := cI_rng n n'; have h3 := cB_rng s s'
  unfold cmpV or3
  split
  · omega
  · split <;> omega
theorem cI_tri (a b : Int) : (a < b ∧ cmpI a b = -1) ∨ (a = b ∧ cmpI a b = 0) ∨ (b < a ∧ cmpI a b = 1) := by
  unfold cmpI
  by_cases h : a < b
  · simp [h]
  · by_cases k : b < a
    · simp [h, k]
    · simp [h, k]; omega
theorem cV_trans (k n k' n' k'' n'' : Int) (s s' s'' : List UInt8) (h : cmpV k n s k' n' s' ≤ 0) (h2 : cmpV k' n' s' k'' n'' s'' ≤ 0) : cmpV k n s k'' n'' s'' ≤ 0 := by
  unfold cmpV or3 at *
  have a1 := cI_tri k k'; have a2 := cI_tri k' k''; have a3 := cI_tri k k''
  have b1 := cI_tri n n'; have b2 := cI_tri n' n''; have b3 := cI_tri n n''
  have c3 := cB_trans s s' s''
  generalize cmpI k k' = x1 at *; generalize cmpI k' k'' = x2 at *; generalize cmpI k k'' = x3 at *
  generalize cmpI n n' = y1 at *; generalize cmpI n' n'' = y2 at *; generalize cmpI n n'' = y3 at *
  generalize Lib.compareBytes s s' = z1 at *; generalize Lib.compareBytes s' s'' = z2 at *; generalize Lib.compareBytes s s'' = z3 at *
  split at h <;> split at h2 <;> split
  all_goals first
    | omega
    | (split at h <;> first | omega | (split at h2 <;> first | omega | (split <;> omega)))
    | (split at h2 <;> first | omega | (split <;> omega))
    | (split <;> omega)
end Go.Abs

namespace Go.Abs
open Go.Proofs Go.Wire
theorem w22 (m a b r : Int) : (pureW PZ (GZ m) XV (tbl []) (itbl []) nAn [] 22 [.int .i64 a, .int .i64 b] (.int .i64 r, [])) =
((decide (a < b) = true → RetIs (AV.int IntKind.i64 (-1 : Int)) [] (AV.int IntKind.i64 r, [])) ∧
  (decide (a < b) = false →
    (decide (a > b) = true → RetIs (AV.int IntKind.i64 (1 : Int)) [] (AV.int IntKind.i64 r, [])) ∧
      (decide (a > b) = false → RetIs (AV.int IntKind.i64 (0 : Int)) [] (AV.int IntKind.i64 r, [])))) := by kernel_rfl
theorem w8 (m k n k' n' r : Int) (s s' : List UInt8) : (pureW PZ (GZ m) XV (tbl [(22, s22')]) (itbl []) nAn [] 8 [vA k n s, vA k' n' s'] (.int .i64 r, [])) =
(((k != k') = true →
    ∃ (n : Int), CallIs (some (AV.int IntKind.i64 (cmpI k k'), [])) (AV.int IntKind.i64 n) [] ∧ RetIs (AV.int IntKind.i64 n) [] (AV.int IntKind.i64 r, [])) ∧
  ((k != k') = false →
    ((n != n') = true →
        ∃ (n_1 : Int),
 CallIs (some (AV.int IntKind.i64 (cmpI n n'), [])) (AV.int IntKind.i64 n_1) [] ∧ RetIs (AV.int IntKind.i64 n_1) [] (AV.int IntKind.i64 r, [])) ∧
      ((n != n') = false →
        (Op.bytesLess s s' = true → RetIs (AV.int IntKind.i64 (-1 : Int)) [] (AV.int IntKind.i64 r, [])) ∧
 (Op.bytesLess s s' = false →
 ((!(Op.bytesLess s s' || s == s')) = true → RetIs (AV.int IntKind.i64 (1 : Int)) [] (AV.int IntKind.i64 r, [])) ∧
 ((!(Op.bytesLess s s' || s == s')) = false → RetIs (AV.int IntKind.i64 (0 : Int)) [] (AV.int IntKind.i64 r, [])))))) := by kernel_rfl
theorem w3 (m k n k' n' k'' n'' : Int) (s s' s'' : List UInt8) : (pureW PZ (GZ m) XV (tbl [(5, s5), (6, s6a), (7, s7), (8, s7)]) (itbl []) nAn [] 3 [vA k n s, vA k' n' s', vA k'' n'' s''] (.bool true, [])) =
(∃ (b : Bool),
  CallIs (some (AV.bool true, [])) (AV.bool b) [] ∧
    (b = true →
        ∃ (b : Bool),
 CallIs (some (AV.bool (shortB s), [])) (AV.bool b) [] ∧
 (b = true →
 ∃ (b : Bool),
 CallIs (some (AV.bool (shortB s'), [])) (AV.bool b) [] ∧
 (b = true →
 ∃ (b : Bool),
 CallIs (some (AV.bool (shortB s''), [])) (AV.bool b) [] ∧
 (b = true →
 ∃ (n_1 : Int),
 CallIs (some (AV.int IntKind.i64 (cmpV k n s k' n' s'), [])) (AV.int IntKind.i64 n_1) [] ∧
 ∃ (n_2 : Int),
 CallIs (some (AV.int IntKind.i64 (cmpV k n s k' n' s'), [])) (AV.int IntKind.i64 n_2) [] ∧
 ((n_1 != n_2) = true → RetIs (AV.bool false) [] (AV.bool true, [])) ∧
 ((n_1 != n_2) = false →
 ((n_1 == (0 : Int)) = true →
 ((k == k' && (n == n' && (s == s' && true))) = true →
 (false = true → RetIs (AV.bool false) [] (AV.bool true, [])) ∧
 (false = false →
 ∃ (n_3 : Int),
 CallIs (some (AV.int IntKind.i64 (cmpV k' n' s' k n s), [])) (AV.int IntKind.i64 n_3) [] ∧
 ((n_3 != IntKind.i64.wrap ((0 : Int) - n_1)) = true → RetIs (AV.bool false) [] (AV.bool true, [])) ∧
 ((n_3 != IntKind.i64.wrap ((0 : Int) - n_1)) = false →
 ∃ (n_4 : Int),
 CallIs (some (AV.int IntKind.i64 (cmpV k n s k n s), [])) (AV.int IntKind.i64 n_4) [] ∧
 ((n_4 != (0 : Int)) = true → RetIs (AV.bool false) [] (AV.bool true, [])) ∧
 ((n_4 != (0 : Int)) = false →
 (decide (n_1 > (0 : Int)) = true → RetIs (AV.bool true) [] (AV.bool true, [])) ∧
 (decide (n_1 > (0 : Int)) = false →
 ∃ (n_5 : Int),
 CallIs (some (AV.int IntKind.i64 (cmpV k' n' s' k'' n'' s''), []))
 (AV.int IntKind.i64 n_5) [] ∧
 (decide (n_5 > (0 : Int)) = true → RetIs (AV.bool true) [] (AV.bool true, [])) ∧
 (decide (n_5 > (0 : Int)) = false →
 ∃ (n_6 : Int),
 CallIs (some (AV.int IntKind.i64 (cmpV k n s k'' n'' s''), []))
 (AV.int IntKind.i64 n_6) [] ∧
 (decide (n_6 ≤ (0 : Int)) = true →
 RetIs (AV.bool true) [] (AV.bool true, [])) ∧
 (decide (n_6 ≤ (0 : Int)) = false →
 RetIs (AV.bool false) [] (AV.bool true, [])))))))) ∧
 ((k == k' && (n == n' && (s == s' && true))) = false →
 (true = true → RetIs (AV.bool false) [] (AV.bool true, [])) ∧
 (true = false →
 ∃ (n_3 : Int),
 CallIs (some (AV.int IntKind.i64 (cmpV k' n' s' k n s), [])) (AV.int IntKind.i64 n_3) [] ∧
 ((n_3 != IntKind.i64.wrap ((0 : Int) - n_1)) = true → RetIs (AV.bool false) [] (AV.bool true, [])) ∧
 ((n_3 != IntKind.i64.wrap ((0 : Int) - n_1)) = false →
 ∃ (n_4 : Int),
 CallIs (some (AV.int IntKind.i64 (cmpV k n s k n s), [])) (AV.int IntKind.i64 n_4) [] ∧
 ((n_4 != (0 : Int)) = true → RetIs (AV.bool false) [] (AV.bool true, [])) ∧
 ((n_4 != (0 : Int)) = false →
 (decide (n_1 > (0 : Int)) = true → RetIs (AV.bool true) [] (AV.bool true, [])) ∧
 (decide (n_1 > (0 : Int)) = false →
 ∃ (n_5 : Int),
 CallIs (some (AV.int IntKind.i64 (cmpV k' n' s' k'' n'' s''), []))
 (AV.int IntKind.i64 n_5) [] ∧
 (decide (n_5 > (0 : Int)) = true → RetIs (AV.bool true) [] (AV.bool true, [])) ∧
 (decide (n_5 > (0 : Int)) = false →
 ∃ (n_6 : Int),
 CallIs (some (AV.int IntKind.i64 (cmpV k n s k'' n'' s''), []))
 (AV.int IntKind.i64 n_6) [] ∧
 (decide (n_6 ≤ (0 : Int)) = true →
 RetIs (AV.bool true) [] (AV.bool true, [])) ∧
 (decide (n_6 ≤ (0 : Int)) = false →
 RetIs (AV.bool false) [] (AV.bool true, []))))))))) ∧
 ((n_1 == (0 : Int)) = false →
 ((k == k' && (n == n' && (s == s' && true))) = true →
 (true = true → RetIs (AV.bool false) [] (AV.bool true, [])) ∧
 (true = false →
 ∃ (n_3 : Int),
 CallIs (some (AV.int IntKind.i64 (cmpV k' n' s' k n s), [])) (AV.int IntKind.i64 n_3) [] ∧
 ((n_3 != IntKind.i64.wrap ((0 : Int) - n_1)) = true → RetIs (AV.bool false) [] (AV.bool true, [])) ∧
 ((n_3 != IntKind.i64.wrap ((0 : Int) - n_1)) = false →
 ∃ (n_4 : Int),
 CallIs (some (AV.int IntKind.i64 (cmpV k n s k n s), [])) (AV.int IntKind.i64 n_4) [] ∧
 ((n_4 != (0 : Int)) = true → RetIs (AV.bool false) [] (AV.bool true, [])) ∧
 ((n_4 != (0 : Int)) = false →
 (decide (n_1 > (0 : Int)) = true → RetIs (AV.bool true) [] (AV.bool true, [])) ∧
 (decide (n_1 > (0 : Int)) = false →
 ∃ (n_5 : Int),
 CallIs (some (AV.int IntKind.i64 (cmpV k' n' s' k'' n'' s''), []))
 (AV.int IntKind.i64 n_5) [] ∧
 (decide (n_5 > (0 : Int)) = true → RetIs (AV.bool true) [] (AV.bool true, [])) ∧
 (decide (n_5 > (0 : Int)) = false →
 ∃ (n_6 : Int),
 CallIs (some (AV.int IntKind.i64 (cmpV k n s k'' n'' s''), []))
 (AV.int IntKind.i64 n_6) [] ∧
 (decide (n_6 ≤ (0 : Int)) = true →
 RetIs (AV.bool true) [] (AV.bool true, [])) ∧
 (decide (n_6 ≤ (0 : Int)) = false →
 RetIs (AV.bool false) [] (AV.bool true, [])))))))) ∧
 ((k == k' && (n == n' && (s == s' && true))) = false →
 (false = true → RetIs (AV.bool false) [] (AV.bool true, [])) ∧
 (false = false →
 ∃ (n_3 : Int),
 CallIs (some (AV.int IntKind.i64 (cmpV k' n' s' k n s), [])) (AV.int IntKind.i64 n_3) [] ∧
 ((n_3 != IntKind.i64.wrap ((0 : Int) - n_1)) = true → RetIs (AV.bool false) [] (AV.bool true, [])) ∧
 ((n_3 != IntKind.i64.wrap ((0 : Int) - n_1)) = false →
 ∃ (n_4 : Int),
 CallIs (some (AV.int IntKind.i64 (cmpV k n s k n s), [])) (AV.int IntKind.i64 n_4) [] ∧
 ((n_4 != (0 : Int)) = true → RetIs (AV.bool false) [] (AV.bool true, [])) ∧
 ((n_4 != (0 : Int)) = false →
 (decide (n_1 > (0 : Int)) = true → RetIs (AV.bool true) [] (AV.bool true, [])) ∧
 (decide (n_1 > (0 : Int)) = false →
 ∃ (n_5 : Int),
 CallIs (some (AV.int IntKind.i64 (cmpV k' n' s' k'' n'' s''), []))
 (AV.int IntKind.i64 n_5) [] ∧
 (decide (n_5 > (0 : Int)) = true → RetIs (AV.bool true) [] (AV.bool true, [])) ∧
 (decide (n_5 > (0 : Int)) = false →
 ∃ (n_6 : Int),
 CallIs (some (AV.int IntKind.i64 (cmpV k n s k'' n'' s''), []))
 (AV.int IntKind.i64 n_6) [] ∧
 (decide (n_6 ≤ (0 : Int)) = true →
 RetIs (AV.bool true) [] (AV.bool true, [])) ∧
 (decide (n_6 ≤ (0 : Int)) = false →
 RetIs (AV.bool false) [] (AV.bool true, []))))))))))) ∧
 (b = false → RetIs (AV.bool true) [] (AV.bool true, []))) ∧
 (b = false → RetIs (AV.bool true) [] (AV.bool true, []))) ∧
 (b = false → RetIs (AV.bool true) [] (AV.bool true, []))) ∧
      (b = false → RetIs (AV.bool false) [] (AV.bool true, []))) := by kernel_rfl
end Go.Abs

namespace Go.Abs
open Go.Proofs Go.Wire
theorem p22 (m a b : Int) : PureOk PZ (GZ m) XV (tbl []) (itbl []) nAn [] 22 [.int .i64 a, .int .i64 b] (.int .i64 (cmpI a b), []) := by
  constructor
  generalize hr : cmpI a b = r
  rw [w22]
  unfold cmpI at hr
  simp only [decide_eq_true_eq, decide_eq_false_iff_not]
  refine ⟨fun h => ⟨?_⟩, fun h => ⟨fun h2 => ⟨?_⟩, fun h2 => ⟨?_⟩⟩⟩
  · rw [← hr, if_pos h]
  · rw [← hr, if_neg h, if_pos (by omega)]
  · rw [← hr, if_neg h, if_neg (by omega)]
theorem o22' (m : Int) : SpecOk PZ (GZ m) 22 s22' := spec_of (X := XV) (m := []) mixedZ tbl_nil itbl_nil fun args r h => by
  unfold s22' at h
  split at h
  · injection h with h; subst h; exact ⟨nAn, p22 m _ _⟩
  · cases h
theorem p8 (m k n k' n' : Int) (s s' : List UInt8) : PureOk PZ (GZ m) XV (tbl [(22, s22')]) (itbl []) nAn [] 8 [vA k n s, vA k' n' s'] (.int .i64 (cmpV k n s k' n' s'), []) := by
  constructor
  generalize hr : cmpV k n s k' n' s' = r
  rw [w8]
  unfold cmpV or3 at hr
  have c1 := cB_rng s s'
  have c2 := cB_less s s'
  have c3 := cB_zero s s'
  refine ⟨fun h => ⟨_, ⟨rfl⟩, ⟨?_⟩⟩, fun h => ⟨fun h2 => ⟨_, ⟨rfl⟩, ⟨?_⟩⟩, fun h2 => ⟨fun h3 => ⟨?_⟩, fun h3 => ⟨fun h4 => ⟨?_⟩, fun h4 => ⟨?_⟩⟩⟩⟩⟩
  · have : ¬ k = k' := by simpa using h
    rw [← hr, if_pos (by rw [ne_eq, cI_zero]; exact this)]
  · have e : k = k' := by simpa using h
    have : ¬ n = n' := by simpa using h2
    rw [← hr, if_neg (by rw [ne_eq, cI_zero]; simpa using e), if_pos (by rw [ne_eq, cI_zero]; exact this)]
  · have e : k = k' := by simpa using h
    have e2 : n = n' := by simpa using h2
    rw [c2] at h3
    have e3 : Lib.compareBytes s s' = -1 := by simpa using h3
    rw [← hr, if_neg (by rw [ne_eq, cI_zero]; simpa using e), if_neg (by rw [ne_eq, cI_zero]; simpa using e2), e3]
  · have e : k = k' := by simpa using h
    have e2 : n = n' := by simpa using h2
    rw [c2] at h3 h4
    have e3 : ¬ Lib.compareBytes s s' = -1 := by simpa using h3
    have e4 : ¬ s = s' := by intro e; subst e; simp at h4
    have e5 : Lib.compareBytes s s' = 1 := by
      rw [← c3] at e4; omega
    rw [← hr, if_neg (by rw [ne_eq, cI_zero]; simpa using e), if_neg (by rw [ne_eq, cI_zero]; simpa using e2), e5]
  · have e : k = k' := by simpa using h
    have e2 : n = n' := by simpa using h2
    rw [c2] at h3 h4
    have e3 : ¬ Lib.compareBytes s s' = -1 := by simpa using h3
    have e4 : s = s' := by simpa [e3] using h4
    rw [← c3] at e4
    rw [← hr, if_neg (by rw [ne_eq, cI_zero]; simpa using e), if_neg (by rw [ne_eq, cI_zero]; simpa using e2), e4]
theorem o8 (m : Int) : SpecOk PZ (GZ m) 8 s7 := spec_of (X := XV) (m := []) mixedZ (tbl_cons (o22' m) tbl_nil) itbl_nil fun args r h => by
  unfold s7 at h
  split at h
  · injection h with h; subst h; exact ⟨nAn, p8 m _ _ _ _ _ _⟩
  · cases h
theorem p3 (m k n k' n' k'' n'' : Int) (s s' s'' : List UInt8) : PureOk PZ (GZ m) XV (tbl [(5, s5), (6, s6a), (7, s7), (8, s7)]) (itbl []) nAn [] 3 [vA k n s, vA k' n' s', vA k'' n'' s''] (.bool true, []) := by
  constructor
  rw [w3]
  have z := cV_zero k n k' n' s s'
  have zz := (cV_zero k n k n s s).2 ⟨rfl, rfl, rfl⟩
  have g := cV_neg k n k' n' s s'
  have q := cV_rng k n k' n' s s'
  have t := cV_trans k n k' n' k'' n'' s s' s''
  refine ⟨true, ⟨rfl⟩, fun _ => ⟨_, ⟨rfl⟩, fun _ => ⟨_, ⟨rfl⟩, fun _ => ⟨_, ⟨rfl⟩, fun _ => ⟨_, ⟨rfl⟩, _, ⟨rfl⟩, fun h => ?_, fun _ => ⟨fun h0 => ⟨fun he => ⟨fun h => (nomatch h), fun _ => ?_⟩, fun he => ⟨fun _ => ?_, fun h => (nomatch h)⟩⟩, fun h0 => ⟨fun he => ⟨fun _ => ?_, fun h => (nomatch h)⟩, fun he => ⟨fun h => (nomatch h), fun _ => ?_⟩⟩⟩⟩, fun _ => ⟨rfl⟩⟩, fun _ => ⟨rfl⟩⟩, fun _ => ⟨rfl⟩⟩, fun h => (nomatch h)⟩
  · simp at h
  rotate_left
  · exfalso
    have h1 : cmpV k n s k' n' s' = 0 := by simpa using h0
    have h2 := z.1 h1
    simp [h2] at he
  · exfalso
    have h1 : ¬ cmpV k n s k' n' s' = 0 := by simpa using h0
    apply h1; apply z.2
    simpa using he
  all_goals
    rw [g, zz]
    generalize cmpV k n s k' n' s' = x at *
    have hw : IntKind.i64.wrap ((0 : Int) - x) = -x := by rw [wrapi64]; omega
    rw [hw]
    refine ⟨_, ⟨rfl⟩, fun h => ?_, fun _ => ⟨_, ⟨rfl⟩, fun h => ?_, fun _ => ⟨fun _ => ⟨rfl⟩, fun h1 => ⟨_, ⟨rfl⟩, fun _ => ⟨rfl⟩, fun h2 => ⟨_, ⟨rfl⟩, fun _ => ⟨rfl⟩, fun h3 => ?_⟩⟩⟩⟩⟩
    · simp at h
    · simp at h
    · exfalso
      simp only [decide_eq_false_iff_not] at h1 h2 h3
      exact h3 (t (by omega) (by omega))
def s3 : Spec := fun args => match args with
  | [.agg [.int .i64 _, .int .i64 _, .str _], .agg [.int .i64 _, .int .i64 _, .str _], .agg [.int .i64 _, .int .i64 _, .str _]] => some (.bool true, [])
  | _ => none
theorem o3 (m : Int) : SpecOk PZ (GZ m) 3 s3 := spec_of (X := XV) (m := []) mixedZ (tbl_cons (o5 m) (tbl_cons (o6a m) (tbl_cons (o7 m) (tbl_cons (o8 m) tbl_nil)))) itbl_nil fun args r h => by
  unfold s3 at h
  split at h
  · injection h with h; subst h; exact ⟨nAn, p3 m _ _ _ _ _ _ _ _ _⟩
  · cases h
theorem s3_true (l0 l1 l2 : V3) (_ : i64Ok l0.n) (_ : i64Ok l1.n) (_ : i64Ok l2.n) : s3 [aV l0, aV l1, aV l2] = some (.bool true, []) := rfl
end Go.Abs

namespace Go.Abs
open Go.Proofs Go.Wire
def stN (a b : Int) : St := ⟨[some [.int .i64 3, .int .i64 a, .str []], some [.int .i64 3, .int .i64 b, .str []]], []⟩
def f4A (a b : Int) : Anns := ⟨fun q => match q with
  | 1000008 => some { α := Unit, slots := [0, 5], nb := 2, vals := fun _ => [.int .i64 a, .ptr 0 0], sS := fun _ => stN a b, I := fun _ => True, μ := fun _ => 0 }
  | 1000010 => some { α := Unit, slots := [0, 5], nb := 2, vals := fun _ => [.int .i64 a, .ptr 0 0], sS := fun _ => stN a b, I := fun _ => inR a = true, μ := fun _ => 0 }
  | _ => none, nA⟩
end Go.Abs

namespace Go.Abs
open Go.Proofs Go.Wire
theorem w4n (m a b : Int) : (pureW PZ (GZ m) XV (tbl [(5, s5), (7, s7), (9, s9), (10, s10), (11, s11), (12, s12), (13, s13), (14, s14), (15, s55)]) (itbl []) (f4A a b) [] 4 [.int .i64 a, .int .i64 b] (.bool true, [])) =
(∃ (b_1 : Bool),
  CallIs (some (AV.bool true, [])) (AV.bool b_1) [] ∧
    (b_1 = true →
        ∃ (n : Int),
 CallIs (some (AV.int IntKind.i64 (cmpV (3 : Int) a [] (3 : Int) b []), [])) (AV.int IntKind.i64 n) [] ∧
 (decide (n < (0 : Int)) = true →
 ((decide (a < b) = true →
 (false = true → RetIs (AV.bool false) [] (AV.bool true, [])) ∧
 (false = false →
 ∃ (_y : Unit),
 ValsAre [AV.int IntKind.i64 a, AV.ptr (nat_lit 0) (nat_lit 0)] [AV.int IntKind.i64 a, AV.ptr (nat_lit 0) (nat_lit 0)] ∧
 StIs
 { boxes := [some [AV.int IntKind.i64 (3 : Int), AV.int IntKind.i64 a, AV.str []], some [AV.int IntKind.i64 (3 : Int), AV.int IntKind.i64 b, AV.str []]], live := [] }
 { boxes := [some [AV.int IntKind.i64 (3 : Int), AV.int IntKind.i64 a, AV.str []], some [AV.int IntKind.i64 (3 : Int), AV.int IntKind.i64 b, AV.str []]], live := [] } ∧
 True ∧ True)) ∧
 (decide (a < b) = false →
 (true = true → RetIs (AV.bool false) [] (AV.bool true, [])) ∧
 (true = false →
 ∃ (_y : Unit),
 ValsAre [AV.int IntKind.i64 a, AV.ptr (nat_lit 0) (nat_lit 0)] [AV.int IntKind.i64 a, AV.ptr (nat_lit 0) (nat_lit 0)] ∧
 StIs
 { boxes := [some [AV.int IntKind.i64 (3 : Int), AV.int IntKind.i64 a, AV.str []], some [AV.int IntKind.i64 (3 : Int), AV.int IntKind.i64 b, AV.str []]], live := [] }
 { boxes := [some [AV.int IntKind.i64 (3 : Int), AV.int IntKind.i64 a, AV.str []], some [AV.int IntKind.i64 (3 : Int), AV.int IntKind.i64 b, AV.str []]], live := [] } ∧
 True ∧ True))) ∧
 ∀ (_x : Unit),
 True →
 True →
 ((decide (a < (-1152921504606846976 : Int)) = true →
 ∃ (n : Int),
 CallIs (some (AV.int IntKind.i64 (checkI (3 : Int) a []), [])) (AV.int IntKind.i64 n) [] ∧
 ((n == (2 : Int)) = true →
 ∃ (s : List UInt8),
 CallIs
 (tbl
 [(nat_lit 5, s5), (nat_lit 7, s7), (nat_lit 9, s9), (nat_lit 10, s10), (nat_lit 11, s11), (nat_lit 12, s12),
 (nat_lit 13, s13), (nat_lit 14, s14), (nat_lit 15, s55)]
 (nat_lit 10) [AV.agg [AV.int IntKind.i64 (3 : Int), AV.int IntKind.i64 a, AV.str []]])
 (AV.str s) [] ∧
 ((s == []) = true →
 ∃ (es : List AV),
 CallIs
 (tbl
 [(nat_lit 5, s5), (nat_lit 7, s7), (nat_lit 9, s9), (nat_lit 10, s10), (nat_lit 11, s11),
 (nat_lit 12, s12), (nat_lit 13, s13), (nat_lit 14, s14), (nat_lit 15, s55)]
 (nat_lit 11)
 [AV.sl (nat_lit 0) [] Own.nil, AV.agg [AV.int IntKind.i64 (3 : Int), AV.int IntKind.i64 a, AV.str []]])
 (AV.sl (nat_lit 1) es (Own.tok (nat_lit 0))) [(es.length, nat_lit 5)] ∧
 (((↑es.length : Int) == (0 : Int)) = true → RetIs (AV.bool true) [] (AV.bool true, [])) ∧
 (((↑es.length : Int) == (0 : Int)) = false → RetIs (AV.bool false) [] (AV.bool true, []))) ∧
 ((s == []) = false → RetIs (AV.bool false) [] (AV.bool true, []))) ∧
 ((n == (2 : Int)) = false → RetIs (AV.bool false) [] (AV.bool true, []))) ∧
 (decide (a < (-1152921504606846976 : Int)) = false →
 (decide (a > (1152921504606846976 : Int)) = true →
 ∃ (n : Int),
 CallIs (some (AV.int IntKind.i64 (checkI (3 : Int) a []), [])) (AV.int IntKind.i64 n) [] ∧
 ((n == (2 : Int)) = true →
 ∃ (s : List UInt8),
 CallIs
 (tbl
 [(nat_lit 5, s5), (nat_lit 7, s7), (nat_lit 9, s9), (nat_lit 10, s10), (nat_lit 11, s11), (nat_lit 12, s12),
 (nat_lit 13, s13), (nat_lit 14, s14), (nat_lit 15, s55)]
 (nat_lit 10) [AV.agg [AV.int IntKind.i64 (3 : Int), AV.int IntKind.i64 a, AV.str []]])
 (AV.str s) [] ∧
 ((s == []) = true →
 ∃ (es : List AV),
 CallIs
 (tbl
 [(nat_lit 5, s5), (nat_lit 7, s7), (nat_lit 9, s9), (nat_lit 10, s10), (nat_lit 11, s11),
 (nat_lit 12, s12), (nat_lit 13, s13), (nat_lit 14, s14), (nat_lit 15, s55)]
 (nat_lit 11)
 [AV.sl (nat_lit 0) [] Own.nil,
 AV.agg [AV.int IntKind.i64 (3 : Int), AV.int IntKind.i64 a, AV.str []]])
 (AV.sl (nat_lit 1) es (Own.tok (nat_lit 0))) [(es.length, nat_lit 5)] ∧
 (((↑es.length : Int) == (0 : Int)) = true → RetIs (AV.bool true) [] (AV.bool true, [])) ∧
 (((↑es.length : Int) == (0 : Int)) = false → RetIs (AV.bool false) [] (AV.bool true, []))) ∧
 ((s == []) = false → RetIs (AV.bool false) [] (AV.bool true, []))) ∧
 ((n == (2 : Int)) = false → RetIs (AV.bool false) [] (AV.bool true, []))) ∧
 (decide (a > (1152921504606846976 : Int)) = false →
 ∃ (_y : Unit),
 ValsAre [AV.int IntKind.i64 a, AV.ptr (nat_lit 0) (nat_lit 0)] [AV.int IntKind.i64 a, AV.ptr (nat_lit 0) (nat_lit 0)] ∧
 StIs
 { boxes := [some [AV.int IntKind.i64 (3 : Int), AV.int IntKind.i64 a, AV.str []], some [AV.int IntKind.i64 (3 : Int), AV.int IntKind.i64 b, AV.str []]], live := [] }
 { boxes := [some [AV.int IntKind.i64 (3 : Int), AV.int IntKind.i64 a, AV.str []], some [AV.int IntKind.i64 (3 : Int), AV.int IntKind.i64 b, AV.str []]], live := [] } ∧
 inR a = true ∧ True))) ∧
 ∀ (_x : Unit),
 inR a = true →
 True →
 ∃ (s : List UInt8),
 CallIs
 (tbl
 [(nat_lit 5, s5), (nat_lit 7, s7), (nat_lit 9, s9), (nat_lit 10, s10), (nat_lit 11, s11), (nat_lit 12, s12),
 (nat_lit 13, s13), (nat_lit 14, s14), (nat_lit 15, s55)]
 (nat_lit 10) [AV.agg [AV.int IntKind.i64 (3 : Int), AV.int IntKind.i64 a, AV.str []]])
 (AV.str s) [] ∧
 ∃ (n : Int),
 ∃ (n_1 : Int),
 CallIs
 (tbl
 [(nat_lit 5, s5), (nat_lit 7, s7), (nat_lit 9, s9), (nat_lit 10, s10), (nat_lit 11, s11), (nat_lit 12, s12),
 (nat_lit 13, s13), (nat_lit 14, s14), (nat_lit 15, s55)]
 (nat_lit 12) [AV.str s])
 (AV.tup [AV.int IntKind.i64 n, AV.int IntKind.i64 n_1]) [] ∧
 ∃ (n_2 : Int),
 ∃ (n_3 : Int),
 ∃ (s_1 : List UInt8),
 ∃ (n_4 : Int),
 CallIs
 (tbl
 [(nat_lit 5, s5), (nat_lit 7, s7), (nat_lit 9, s9), (nat_lit 10, s10), (nat_lit 11, s11),
 (nat_lit 12, s12), (nat_lit 13, s13), (nat_lit 14, s14), (nat_lit 15, s55)]
 (nat_lit 13) [AV.str s])
 (AV.tup [AV.agg [AV.int IntKind.i64 n_2, AV.int IntKind.i64 n_3, AV.str s_1], AV.int IntKind.i64 n_4])
 [] ∧
 ∃ (es : List AV),
 CallIs
 (tbl
 [(nat_lit 5, s5), (nat_lit 7, s7), (nat_lit 9, s9), (nat_lit 10, s10), (nat_lit 11, s11),
 (nat_lit 12, s12), (nat_lit 13, s13), (nat_lit 14, s14), (nat_lit 15, s55)]
 (nat_lit 14) [AV.sl (nat_lit 0) [] Own.nil, AV.int IntKind.i64 a])
 (AV.sl (nat_lit 1) es (Own.tok (nat_lit 0))) [(es.length, nat_lit 5)] ∧
 (nat_lit 1 = nat_lit 1 ∨ [AV.int IntKind.u8 (3 : Int)] = []) ∧
 ((1 : Nat) + es.length) * nat_lit 2 ≤ nat_lit 70368744177664 ∧
 (es = [] →
 ∃ (s_2 : List UInt8),
 CallIs
 (tbl
 [(nat_lit 5, s5), (nat_lit 7, s7), (nat_lit 9, s9), (nat_lit 10, s10),
 (nat_lit 11, s11), (nat_lit 12, s12), (nat_lit 13, s13), (nat_lit 14, s14),
 (nat_lit 15, s55)]
 (nat_lit 15) [AV.int IntKind.i64 a])
 (AV.str s_2) [] ∧
 ((s == s_2) = true →
 ((n == a) = true →
 ((n_1 == (0 : Int)) = true →
 ((n_2 == (3 : Int) && (n_3 == a && (s_1 == [] && true))) = true →
 ((n_4 == (0 : Int)) = true →
 ∃ (es : List AV),
 CallIs
 (tbl
 [(nat_lit 5, s5), (nat_lit 7, s7), (nat_lit 9, s9),
 (nat_lit 10, s10), (nat_lit 11, s11), (nat_lit 12, s12),
 (nat_lit 13, s13), (nat_lit 14, s14), (nat_lit 15, s55)]
 (nat_lit 11)
 [AV.sl (nat_lit 0) [] Own.nil,
 AV.agg
 [AV.int IntKind.i64 (3 : Int), AV.int IntKind.i64 a,
 AV.str []]])
 (AV.sl (nat_lit 1) es (Own.tok (nat_lit 0)))
 [(es.length, nat_lit 5)] ∧
 (nat_lit 1 = nat_lit 1 ∨ es = []) ∧
 ∃ (l : List UInt8),
 List.mapM byteOf es = some l ∧
 (nat_lit 1 = nat_lit 1 ∨ [AV.int IntKind.u8 (3 : Int)] = []) ∧
 ∃ (l_1 : List UInt8),
 some [UInt8.ofNat (Int.toNat (3 : Int))] = some l_1 ∧
 ((l == l_1) = true →
 RetIs (AV.bool true) [] (AV.bool true, [])) ∧
 ((l == l_1) = false →
 RetIs (AV.bool false) [] (AV.bool true, []))) ∧
 ((n_4 == (0 : Int)) = false →
 RetIs (AV.bool false) [] (AV.bool true, []))) ∧
 ((n_2 == (3 : Int) && (n_3 == a && (s_1 == [] && true))) = false →
 RetIs (AV.bool false) [] (AV.bool true, []))) ∧
 ((n_1 == (0 : Int)) = false → RetIs (AV.bool false) [] (AV.bool true, []))) ∧
 ((n == a) = false → RetIs (AV.bool false) [] (AV.bool true, []))) ∧
 ((s == s_2) = false → RetIs (AV.bool false) [] (AV.bool true, []))) ∧
 (es ≠ [] →
 ∃ (s_2 : List UInt8),
 CallIs
 (tbl
 [(nat_lit 5, s5), (nat_lit 7, s7), (nat_lit 9, s9), (nat_lit 10, s10),
 (nat_lit 11, s11), (nat_lit 12, s12), (nat_lit 13, s13), (nat_lit 14, s14),
 (nat_lit 15, s55)]
 (nat_lit 15) [AV.int IntKind.i64 a])
 (AV.str s_2) [] ∧
 ((s == s_2) = true →
 ((n == a) = true →
 ((n_1 == (0 : Int)) = true →
 ((n_2 == (3 : Int) && (n_3 == a && (s_1 == [] && true))) = true →
 ((n_4 == (0 : Int)) = true →
 ∃ (es_1 : List AV),
 CallIs
 (tbl
 [(nat_lit 5, s5), (nat_lit 7, s7), (nat_lit 9, s9),
 (nat_lit 10, s10), (nat_lit 11, s11), (nat_lit 12, s12),
 (nat_lit 13, s13), (nat_lit 14, s14), (nat_lit 15, s55)]
 (nat_lit 11)
 [AV.sl (nat_lit 0) [] Own.nil,
 AV.agg
 [AV.int IntKind.i64 (3 : Int), AV.int IntKind.i64 a,
 AV.str []]])
 (AV.sl (nat_lit 1) es_1 (Own.tok (nat_lit 0)))
 [(es_1.length, nat_lit 5)] ∧
 (nat_lit 1 = nat_lit 1 ∨ es_1 = []) ∧
 ∃ (l : List UInt8),
 List.mapM byteOf es_1 = some l ∧
 (nat_lit 1 = nat_lit 1 ∨
 [AV.int IntKind.u8 (3 : Int)] ++ es = []) ∧
 ∃ (l_1 : List UInt8),
 List.mapM byteOf ([AV.int IntKind.u8 (3 : Int)] ++ es) =
 some l_1 ∧
 ((l == l_1) = true →
 RetIs (AV.bool true) [] (AV.bool true, [])) ∧
 ((l == l_1) = false →
 RetIs (AV.bool false) [] (AV.bool true, []))) ∧
 ((n_4 == (0 : Int)) = false →
 RetIs (AV.bool false) [] (AV.bool true, []))) ∧
 ((n_2 == (3 : Int) && (n_3 == a && (s_1 == [] && true))) = false →
 RetIs (AV.bool false) [] (AV.bool true, []))) ∧
 ((n_1 == (0 : Int)) = false → RetIs (AV.bool false) [] (AV.bool true, []))) ∧
 ((n == a) = false → RetIs (AV.bool false) [] (AV.bool true, []))) ∧
 ((s == s_2) = false → RetIs (AV.bool false) [] (AV.bool true, [])))) ∧
 (decide (n < (0 : Int)) = false →
 ((decide (a < b) = true →
 (true = true → RetIs (AV.bool false) [] (AV.bool true, [])) ∧
 (true = false →
 ∃ (_y : Unit),
 ValsAre [AV.int IntKind.i64 a, AV.ptr (nat_lit 0) (nat_lit 0)] [AV.int IntKind.i64 a, AV.ptr (nat_lit 0) (nat_lit 0)] ∧
 StIs
 { boxes := [some [AV.int IntKind.i64 (3 : Int), AV.int IntKind.i64 a, AV.str []], some [AV.int IntKind.i64 (3 : Int), AV.int IntKind.i64 b, AV.str []]], live := [] }
 { boxes := [some [AV.int IntKind.i64 (3 : Int), AV.int IntKind.i64 a, AV.str []], some [AV.int IntKind.i64 (3 : Int), AV.int IntKind.i64 b, AV.str []]], live := [] } ∧
 True ∧ True)) ∧
 (decide (a < b) = false →
 (false = true → RetIs (AV.bool false) [] (AV.bool true, [])) ∧
 (false = false →
 ∃ (_y : Unit),
 ValsAre [AV.int IntKind.i64 a, AV.ptr (nat_lit 0) (nat_lit 0)] [AV.int IntKind.i64 a, AV.ptr (nat_lit 0) (nat_lit 0)] ∧
 StIs
 { boxes := [some [AV.int IntKind.i64 (3 : Int), AV.int IntKind.i64 a, AV.str []], some [AV.int IntKind.i64 (3 : Int), AV.int IntKind.i64 b, AV.str []]], live := [] }
 { boxes := [some [AV.int IntKind.i64 (3 : Int), AV.int IntKind.i64 a, AV.str []], some [AV.int IntKind.i64 (3 : Int), AV.int IntKind.i64 b, AV.str []]], live := [] } ∧
 True ∧ True))) ∧
 ∀ (_x : Unit),
 True →
 True →
 ((decide (a < (-1152921504606846976 : Int)) = true →
 ∃ (n : Int),
 CallIs (some (AV.int IntKind.i64 (checkI (3 : Int) a []), [])) (AV.int IntKind.i64 n) [] ∧
 ((n == (2 : Int)) = true →
 ∃ (s : List UInt8),
 CallIs
 (tbl
 [(nat_lit 5, s5), (nat_lit 7, s7), (nat_lit 9, s9), (nat_lit 10, s10), (nat_lit 11, s11), (nat_lit 12, s12),
 (nat_lit 13, s13), (nat_lit 14, s14), (nat_lit 15, s55)]
 (nat_lit 10) [AV.agg [AV.int IntKind.i64 (3 : Int), AV.int IntKind.i64 a, AV.str []]])
 (AV.str s) [] ∧
 ((s == []) = true →
 ∃ (es : List AV),
 CallIs
 (tbl
 [(nat_lit 5, s5), (nat_lit 7, s7), (nat_lit 9, s9), (nat_lit 10, s10), (nat_lit 11, s11),
 (nat_lit 12, s12), (nat_lit 13, s13), (nat_lit 14, s14), (nat_lit 15, s55)]
 (nat_lit 11)
 [AV.sl (nat_lit 0) [] Own.nil, AV.agg [AV.int IntKind.i64 (3 : Int), AV.int IntKind.i64 a, AV.str []]])
 (AV.sl (nat_lit 1) es (Own.tok (nat_lit 0))) [(es.length, nat_lit 5)] ∧
 (((↑es.length : Int) == (0 : Int)) = true → RetIs (AV.bool true) [] (AV.bool true, [])) ∧
 (((↑es.length : Int) == (0 : Int)) = false → RetIs (AV.bool false) [] (AV.bool true, []))) ∧
 ((s == []) = false → RetIs (AV.bool false) [] (AV.bool true, []))) ∧
 ((n == (2 : Int)) = false → RetIs (AV.bool false) [] (AV.bool true, []))) ∧
 (decide (a < (-1152921504606846976 : Int)) = false →
 (decide (a > (1152921504606846976 : Int)) = true →
 ∃ (n : Int),
 CallIs (some (AV.int IntKind.i64 (checkI (3 : Int) a []), [])) (AV.int IntKind.i64 n) [] ∧
 ((n == (2 : Int)) = true →
 ∃ (s : List UInt8),
 CallIs
 (tbl
 [(nat_lit 5, s5), (nat_lit 7, s7), (nat_lit 9, s9), (nat_lit 10, s10), (nat_lit 11, s11), (nat_lit 12, s12),
 (nat_lit 13, s13), (nat_lit 14, s14), (nat_lit 15, s55)]
 (nat_lit 10) [AV.agg [AV.int IntKind.i64 (3 : Int), AV.int IntKind.i64 a, AV.str []]])
 (AV.str s) [] ∧
 ((s == []) = true →
 ∃ (es : List AV),
 CallIs
 (tbl
 [(nat_lit 5, s5), (nat_lit 7, s7), (nat_lit 9, s9), (nat_lit 10, s10), (nat_lit 11, s11),
 (nat_lit 12, s12), (nat_lit 13, s13), (nat_lit 14, s14), (nat_lit 15, s55)]
 (nat_lit 11)
 [AV.sl (nat_lit 0) [] Own.nil,
 AV.agg [AV.int IntKind.i64 (3 : Int), AV.int IntKind.i64 a, AV.str []]])
 (AV.sl (nat_lit 1) es (Own.tok (nat_lit 0))) [(es.length, nat_lit 5)] ∧
 (((↑es.length : Int) == (0 : Int)) = true → RetIs (AV.bool true) [] (AV.bool true, [])) ∧
 (((↑es.length : Int) == (0 : Int)) = false → RetIs (AV.bool false) [] (AV.bool true, []))) ∧
 ((s == []) = false → RetIs (AV.bool false) [] (AV.bool true, []))) ∧
 ((n == (2 : Int)) = false → RetIs (AV.bool false) [] (AV.bool true, []))) ∧
 (decide (a > (1152921504606846976 : Int)) = false →
 ∃ (_y : Unit),
 ValsAre [AV.int IntKind.i64 a, AV.ptr (nat_lit 0) (nat_lit 0)] [AV.int IntKind.i64 a, AV.ptr (nat_lit 0) (nat_lit 0)] ∧
 StIs
 { boxes := [some [AV.int IntKind.i64 (3 : Int), AV.int IntKind.i64 a, AV.str []], some [AV.int IntKind.i64 (3 : Int), AV.int IntKind.i64 b, AV.str []]], live := [] }
 { boxes := [some [AV.int IntKind.i64 (3 : Int), AV.int IntKind.i64 a, AV.str []], some [AV.int IntKind.i64 (3 : Int), AV.int IntKind.i64 b, AV.str []]], live := [] } ∧
 inR a = true ∧ True))) ∧
 ∀ (_x : Unit),
 inR a = true →
 True →
 ∃ (s : List UInt8),
 CallIs
 (tbl
 [(nat_lit 5, s5), (nat_lit 7, s7), (nat_lit 9, s9), (nat_lit 10, s10), (nat_lit 11, s11), (nat_lit 12, s12),
 (nat_lit 13, s13), (nat_lit 14, s14), (nat_lit 15, s55)]
 (nat_lit 10) [AV.agg [AV.int IntKind.i64 (3 : Int), AV.int IntKind.i64 a, AV.str []]])
 (AV.str s) [] ∧
 ∃ (n : Int),
 ∃ (n_1 : Int),
 CallIs
 (tbl
 [(nat_lit 5, s5), (nat_lit 7, s7), (nat_lit 9, s9), (nat_lit 10, s10), (nat_lit 11, s11), (nat_lit 12, s12),
 (nat_lit 13, s13), (nat_lit 14, s14), (nat_lit 15, s55)]
 (nat_lit 12) [AV.str s])
 (AV.tup [AV.int IntKind.i64 n, AV.int IntKind.i64 n_1]) [] ∧
 ∃ (n_2 : Int),
 ∃ (n_3 : Int),
 ∃ (s_1 : List UInt8),
 ∃ (n_4 : Int),
 CallIs
 (tbl
 [(nat_lit 5, s5), (nat_lit 7, s7), (nat_lit 9, s9), (nat_lit 10, s10), (nat_lit 11, s11),
 (nat_lit 12, s12), (nat_lit 13, s13), (nat_lit 14, s14), (nat_lit 15, s55)]
 (nat_lit 13) [AV.str s])
 (AV.tup [AV.agg [AV.int IntKind.i64 n_2, AV.int IntKind.i64 n_3, AV.str s_1], AV.int IntKind.i64 n_4])
 [] ∧
 ∃ (es : List AV),
 CallIs
 (tbl
 [(nat_lit 5, s5), (nat_lit 7, s7), (nat_lit 9, s9), (nat_lit 10, s10), (nat_lit 11, s11),
 (nat_lit 12, s12), (nat_lit 13, s13), (nat_lit 14, s14), (nat_lit 15, s55)]
 (nat_lit 14) [AV.sl (nat_lit 0) [] Own.nil, AV.int IntKind.i64 a])
 (AV.sl (nat_lit 1) es (Own.tok (nat_lit 0))) [(es.length, nat_lit 5)] ∧
 (nat_lit 1 = nat_lit 1 ∨ [AV.int IntKind.u8 (3 : Int)] = []) ∧
 ((1 : Nat) + es.length) * nat_lit 2 ≤ nat_lit 70368744177664 ∧
 (es = [] →
 ∃ (s_2 : List UInt8),
 CallIs
 (tbl
 [(nat_lit 5, s5), (nat_lit 7, s7), (nat_lit 9, s9), (nat_lit 10, s10),
 (nat_lit 11, s11), (nat_lit 12, s12), (nat_lit 13, s13), (nat_lit 14, s14),
 (nat_lit 15, s55)]
 (nat_lit 15) [AV.int IntKind.i64 a])
 (AV.str s_2) [] ∧
 ((s == s_2) = true →
 ((n == a) = true →
 ((n_1 == (0 : Int)) = true →
 ((n_2 == (3 : Int) && (n_3 == a && (s_1 == [] && true))) = true →
 ((n_4 == (0 : Int)) = true →
 ∃ (es : List AV),
 CallIs
 (tbl
 [(nat_lit 5, s5), (nat_lit 7, s7), (nat_lit 9, s9),
 (nat_lit 10, s10), (nat_lit 11, s11), (nat_lit 12, s12),
 (nat_lit 13, s13), (nat_lit 14, s14), (nat_lit 15, s55)]
 (nat_lit 11)
 [AV.sl (nat_lit 0) [] Own.nil,
 AV.agg
 [AV.int IntKind.i64 (3 : Int), AV.int IntKind.i64 a,
 AV.str []]])
 (AV.sl (nat_lit 1) es (Own.tok (nat_lit 0)))
 [(es.length, nat_lit 5)] ∧
 (nat_lit 1 = nat_lit 1 ∨ es = []) ∧
 ∃ (l : List UInt8),
 List.mapM byteOf es = some l ∧
 (nat_lit 1 = nat_lit 1 ∨ [AV.int IntKind.u8 (3 : Int)] = []) ∧
 ∃ (l_1 : List UInt8),
 some [UInt8.ofNat (Int.toNat (3 : Int))] = some l_1 ∧
 ((l == l_1) = true →
 RetIs (AV.bool true) [] (AV.bool true, [])) ∧
 ((l == l_1) = false →
 RetIs (AV.bool false) [] (AV.bool true, []))) ∧
 ((n_4 == (0 : Int)) = false →
 RetIs (AV.bool false) [] (AV.bool true, []))) ∧
 ((n_2 == (3 : Int) && (n_3 == a && (s_1 == [] && true))) = false →
 RetIs (AV.bool false) [] (AV.bool true, []))) ∧
 ((n_1 == (0 : Int)) = false → RetIs (AV.bool false) [] (AV.bool true, []))) ∧
 ((n == a) = false → RetIs (AV.bool false) [] (AV.bool true, []))) ∧
 ((s == s_2) = false → RetIs (AV.bool false) [] (AV.bool true, []))) ∧
 (es ≠ [] →
 ∃ (s_2 : List UInt8),
 CallIs
 (tbl
 [(nat_lit 5, s5), (nat_lit 7, s7), (nat_lit 9, s9), (nat_lit 10, s10),
 (nat_lit 11, s11), (nat_lit 12, s12), (nat_lit 13, s13), (nat_lit 14, s14),
 (nat_lit 15, s55)]
 (nat_lit 15) [AV.int IntKind.i64 a])
 (AV.str s_2) [] ∧
 ((s == s_2) = true →
 ((n == a) = true →
 ((n_1 == (0 : Int)) = true →
 ((n_2 == (3 : Int) && (n_3 == a && (s_1 == [] && true))) = true →
 ((n_4 == (0 : Int)) = true →
 ∃ (es_1 : List AV),
 CallIs
 (tbl
 [(nat_lit 5, s5), (nat_lit 7, s7), (nat_lit 9, s9),
 (nat_lit 10, s10), (nat_lit 11, s11), (nat_lit 12, s12),
 (nat_lit 13, s13), (nat_lit 14, s14), (nat_lit 15, s55)]
 (nat_lit 11)
 [AV.sl (nat_lit 0) [] Own.nil,
 AV.agg
 [AV.int IntKind.i64 (3 : Int), AV.int IntKind.i64 a,
 AV.str []]])
 (AV.sl (nat_lit 1) es_1 (Own.tok (nat_lit 0)))
 [(es_1.length, nat_lit 5)] ∧
 (nat_lit 1 = nat_lit 1 ∨ es_1 = []) ∧
 ∃ (l : List UInt8),
 List.mapM byteOf es_1 = some l ∧
 (nat_lit 1 = nat_lit 1 ∨
 [AV.int IntKind.u8 (3 : Int)] ++ es = []) ∧
 ∃ (l_1 : List UInt8),
 List.mapM byteOf ([AV.int IntKind.u8 (3 : Int)] ++ es) =
 some l_1 ∧
 ((l == l_1) = true →
 RetIs (AV.bool true) [] (AV.bool true, [])) ∧
 ((l == l_1) = false →
 RetIs (AV.bool false) [] (AV.bool true, []))) ∧
 ((n_4 == (0 : Int)) = false →
 RetIs (AV.bool false) [] (AV.bool true, []))) ∧
 ((n_2 == (3 : Int) && (n_3 == a && (s_1 == [] && true))) = false →
 RetIs (AV.bool false) [] (AV.bool true, []))) ∧
 ((n_1 == (0 : Int)) = false → RetIs (AV.bool false) [] (AV.bool true, []))) ∧
 ((n == a) = false → RetIs (AV.bool false) [] (AV.bool true, []))) ∧
 ((s == s_2) = false → RetIs (AV.bool false) [] (AV.bool true, []))))) ∧
      (b_1 = false → RetIs (AV.bool false) [] (AV.bool true, []))) := by kernel_rfl
end Go.Abs

namespace Go.Abs
open Go.Proofs Go.Wire
theorem cmp3 (a b : Int) : cmpV 3 a [] 3 b [] = cmpI a b := by
  have h1 : cmpI 3 3 = 0 := by decide
  have h2 : Lib.compareBytes [] [] = 0 := rfl
  unfold cmpV or3
  rw [h1, h2]
  by_cases h : cmpI a b = 0
  · simp [h]
  · simp [h]
theorem uintL_ne (n : Nat) : uintL n ≠ [] := by
  by_cases h : n < 128
  · rw [uintL_small h]; simp
  · rw [uintL_big (by omega)]; simp
theorem chk3 (a : Int) : checkI 3 a [] = if inR a = true then 0 else 2 := by
  unfold checkI fieldsB
  by_cases h : inR a = true <;> simp [h]
theorem p4 (m a b : Int) (ha : i64Ok a) : PureOk PZ (GZ m) XV (tbl [(5, s5), (7, s7), (9, s9), (10, s10), (11, s11), (12, s12), (13, s13), (14, s14), (15, s55)]) (itbl []) (f4A a b) [] 4 [.int .i64 a, .int .i64 b] (.bool true, []) := by
  have hse : strOk [] := by show ([] : List UInt8).length ≤ _; simp
  have t10 : tbl [(5, s5), (7, s7), (9, s9), (10, s10), (11, s11), (12, s12), (13, s13), (14, s14), (15, s55)] 10 [.agg [.int .i64 3, .int .i64 a, .str []]] = some (.str (fmtL 3 a []), []) := by
    rw [tbl_miss (by decide), tbl_miss (by decide), tbl_miss (by decide), tbl_hit]
    simp only [s10, sVal', hse, ha, and_self, if_true]
  have t11 : tbl [(5, s5), (7, s7), (9, s9), (10, s10), (11, s11), (12, s12), (13, s13), (14, s14), (15, s55)] 11 [.sl 0 [] .nil, .agg [.int .i64 3, .int .i64 a, .str []]] = some (ownR (appL [] 3 a [])) := by
    rw [tbl_miss (by decide), tbl_miss (by decide), tbl_miss (by decide), tbl_miss (by decide), tbl_hit]
    have h1 : smallOk [] := by show ([] : List UInt8).length ≤ _; simp
    have h2 : unBytes [] = some [] := rfl
    simp only [s11, sApp, onBytes, h2, h1, hse, ha, and_self, or_true, if_true]
  have t12 : ∀ s : List UInt8, s.length ≤ 1000000 → tbl [(5, s5), (7, s7), (9, s9), (10, s10), (11, s11), (12, s12), (13, s13), (14, s14), (15, s55)] 12 [.str s] = some (.tup [.int .i64 (decP s).1, .int .i64 (decP s).2], []) := fun s h => by
    rw [tbl_miss (by decide), tbl_miss (by decide), tbl_miss (by decide), tbl_miss (by decide), tbl_miss (by decide), tbl_hit]
    simp only [s12, h, if_true]
  have t13 : ∀ s : List UInt8, s.length ≤ 1000000 → tbl [(5, s5), (7, s7), (9, s9), (10, s10), (11, s11), (12, s12), (13, s13), (14, s14), (15, s55)] 13 [.str s] = some (.tup [aV (parseV s).1, .int .i64 (parseV s).2], []) := fun s h => by
    have h' : strOk s := h
    rw [tbl_miss (by decide), tbl_miss (by decide), tbl_miss (by decide), tbl_miss (by decide), tbl_miss (by decide), tbl_miss (by decide), tbl_hit]
    simp only [s13, h', if_true]
  have t14 : tbl [(5, s5), (7, s7), (9, s9), (10, s10), (11, s11), (12, s12), (13, s13), (14, s14), (15, s55)] 14 [.sl 0 [] .nil, .int .i64 a] = some (ownR (uintL (zig a))) := by
    rw [tbl_miss (by decide), tbl_miss (by decide), tbl_miss (by decide), tbl_miss (by decide), tbl_miss (by decide), tbl_miss (by decide), tbl_miss (by decide), tbl_hit]
    have h2 : unBytes [] = some [] := rfl
    simp only [s14, sBytesNum, onBytes, h2, hse, ha, and_self, or_true, if_true, List.nil_append]
  have t15 : tbl [(5, s5), (7, s7), (9, s9), (10, s10), (11, s11), (12, s12), (13, s13), (14, s14), (15, s55)] 15 [.int .i64 a] = some (.str (decF a), []) := by
    rw [tbl_miss (by decide), tbl_miss (by decide), tbl_miss (by decide), tbl_miss (by decide), tbl_miss (by decide), tbl_miss (by decide), tbl_miss (by decide), tbl_miss (by decide), tbl_hit]
    simp only [s55, sInt, ha, if_true]
  have hout : inR a = false → fmtL 3 a [] = [] ∧ appL [] 3 a [] = [] ∧ checkI 3 a [] = 2 := fun h => by
    have hc : checkI 3 a [] = 2 := by rw [chk3, h]; rfl
    have hv : validB 3 a [] = false := by unfold validB; rw [hc]; rfl
    exact ⟨by unfold fmtL; rw [hv]; rfl, by unfold appL; rw [hv]; rfl, hc⟩
  have hin : inR a = true → validB 3 a [] = true := fun h => by unfold validB; rw [chk3, h]; rfl
  have htri := cI_tri a b
  constructor
  rw [w4n, cmp3]
  refine ⟨true, ⟨rfl⟩, fun _ => ⟨_, ⟨rfl⟩, fun h0 => ⟨⟨fun h1 => ⟨fun h => (nomatch h), fun _ => ⟨(), ⟨rfl⟩, ⟨rfl⟩, trivial, trivial⟩⟩, fun h1 => ⟨fun _ => ?_, fun h => (nomatch h)⟩⟩, fun _ _ _ => ?_⟩, fun h0 => ⟨⟨fun h1 => ⟨fun _ => ?_, fun h => (nomatch h)⟩, fun h1 => ⟨fun h => (nomatch h), fun _ => ⟨(), ⟨rfl⟩, ⟨rfl⟩, trivial, trivial⟩⟩⟩, fun _ _ _ => ?_⟩⟩, fun h => (nomatch h)⟩
  · exfalso; simp at h0 h1; omega
  rotate_left
  · exfalso; simp at h0 h1; omega
  all_goals
    refine ⟨⟨fun hlo => ?_, fun hlo => ⟨fun hhi => ?_, fun hhi => ⟨(), ⟨rfl⟩, ⟨rfl⟩, ?_, trivial⟩⟩⟩, fun _ hR _ => ?_⟩
    · have OO : inR a = false := by simp at hlo; unfold inR; simp; omega
      exact ⟨_, ⟨rfl⟩, fun _ => ⟨[], ⟨by rw [t10, (hout OO).1]⟩, fun _ => ⟨bytesL [], by rw [t11, (hout OO).2.1]; exact own_call rfl, fun _ => ⟨rfl⟩, fun h => by simp [bytesL] at h⟩, fun h => by simp at h⟩, fun h => by rw [(hout OO).2.2] at h; simp at h⟩
    · have OO : inR a = false := by simp at hhi; unfold inR; simp; omega
      exact ⟨_, ⟨rfl⟩, fun _ => ⟨[], ⟨by rw [t10, (hout OO).1]⟩, fun _ => ⟨bytesL [], by rw [t11, (hout OO).2.1]; exact own_call rfl, fun _ => ⟨rfl⟩, fun h => by simp [bytesL] at h⟩, fun h => by simp at h⟩, fun h => by rw [(hout OO).2.2] at h; simp at h⟩
    · simp at hlo hhi; unfold inR; simp; omega
    · have hv := hin hR
      have hnum : numOk a := by unfold inR at hR; simpa [numOk] using hR
      have hf : fmtL 3 a [] = decF a := by unfold fmtL; rw [hv]; rfl
      have hP := parse_fmt hv
      have hD := decP_decF hnum
      rw [hf] at hP t10
      have hlen : (decF a).length ≤ 1000000 := by
        have h2 := (padD_len (natAbs20 ha)).2
        have h3 : (signL a).length ≤ 1 := by unfold signL; split <;> simp
        unfold decF pointL; simp; omega
      have e12 := t12 _ hlen
      have e13 := t13 _ hlen
      rw [hD] at e12
      rw [hP] at e13
      have hA : appL [] 3 a [] = 3 :: uintL (zig a) := by unfold appL; rw [if_pos hv]; rfl
      have hz := uintL_len10 (zig_lt ha)
      refine ⟨_, ⟨t10⟩, _, _, ⟨e12⟩, _, _, _, _, ⟨e13⟩, bytesL (uintL (zig a)), by rw [t14]; exact own_call rfl, .inl rfl, by rw [bytesL_length]; exact Nat.le_trans (Nat.mul_le_mul_right 2 (show 1 + (uintL (zig a)).length ≤ 20 by omega)) (by decide), fun h => absurd (bytesL_eq_nil.1 h) (uintL_ne _), fun _ => ⟨_, ⟨t15⟩, fun _ => ⟨fun _ => ⟨fun _ => ⟨fun _ => ⟨fun _ => ⟨bytesL (appL [] 3 a []), by rw [t11]; exact own_call rfl, .inl rfl, _, mapM_byteL _, .inl rfl, 3 :: uintL (zig a), mapM_byteL (3 :: uintL (zig a)), fun _ => ⟨rfl⟩, fun h => ?_⟩, fun h => ?_⟩, fun h => ?_⟩, fun h => ?_⟩, fun h => ?_⟩, fun h => ?_⟩⟩
      all_goals first
        | (rw [hA] at h; simp at h; done)
        | (simp at h; done)
def s4 : Spec := fun args => match args with
  | [.int .i64 a, .int .i64 _] => if i64Ok a then some (.bool true, []) else none
  | _ => none
theorem o4 (m : Int) : SpecOk PZ (GZ m) 4 s4 := spec_of (X := XV) (m := []) mixedZ (tbl_cons (o5 m) (tbl_cons (o7 m) (tbl_cons (o9 m) (tbl_cons (o10 m) (tbl_cons (o11 m) (tbl_cons (o12 m) (tbl_cons (o13 m) (tbl_cons (o14 m) (tbl_cons (o15 m) tbl_nil))))))))) itbl_nil fun args r h => by
  unfold s4 at h
  split at h
  · split at h
    · rename_i ha
      injection h with h; subst h; exact ⟨_, p4 m _ _ ha⟩
    · cases h
  · cases h
theorem s4_true (l0 l1 : Int) (n0 : i64Ok l0) (_ : i64Ok l1) : s4 [.int .i64 l0, .int .i64 l1] = some (.bool true, []) := by
  simp only [s4, n0, if_true]
end Go.Abs

namespace Go.Abs
open Go.ChangeShapes Go.WideShapes Go.ChangeAt Go.RowKit Go.Deep Go.ChangeMaps
section
variable {H : Type} {enc : TypeId × Value → H} {P : Program} {W : World}
theorem rep_len {E : Env} {w : World} {sz : Nat} {es : List AV} {o : Own} {v : Value} (h : Rep E w (.sl sz es o) v) : es.length ≤ 9223372036854775807 := by
  cases h with | sl _ _ _ A cap u hcap hmax hA hsz hcl ho hr h1 => exact Nat.le_trans hcap hmax
/-- a package variable has the size of its type -/
theorem glob_size (hsh : W.ShapedOpen P) {g n : Nat} (hg : g < P.globals.size) (hz : (((begin P (fun _ _ => 0) default).world.heap[g]?).bind Obj.row?).map (fun x => x.1.size) = some n) : g < W.heap.size ∧ W.cell? ⟨g, n, none⟩ = none := by
  obtain ⟨h1, _⟩ := hsh
  cases hx : ((begin P (fun _ _ => 0) default).world.heap[g]?).bind Obj.row? with
  | none => rw [hx] at hz; cases hz
  | some x =>
    obtain ⟨zero, t⟩ := x
    rw [hx] at hz
    simp only [Option.map_some, Option.some.injEq] at hz
    obtain ⟨cs, hcs, hsz, _⟩ := h1 g zero t hg hx
    refine ⟨(Array.getElem?_eq_some_iff.1 hcs).1, ?_⟩
    unfold World.cell?
    simp only [hcs]
    have : cs[n]? = none := Array.getElem?_eq_none (by omega)
    simpa using this
/-- a cell that is a slice, in a struct -/
theorem cell_slA {t e : TypeId} {sz : Nat} {α : Type} [Inhabited α] {g : α → AV} (ht : P.underlying t = some (.slice e)) (hc : P.cellsOf e = sz) (hsz : 0 < sz) (hg : ∀ a, (g a).cells.length = sz ∧ (g a).closed1 = true) (hel : ElemOk P W enc e g)
    {n : Nat} {v : Value} {x : DataW H × List MemPlace} (h : DataW.trod enc P W 0 (fun _ => true) true n t [v] = some x) : ∃ l : List α, Rep (oldE W) W (.sl sz (l.map g) .no) v ∧ v.oneCell' = true := by
  have hs : ∃ A len cap, v = .slice A len cap := by
    rcases open_slice ht h with ⟨hcs, _⟩ | ⟨a', len', cap', m, n, D, Pl, hcs, _⟩
    · injection hcs with h1 _; exact ⟨_, _, _, h1⟩
    · injection hcs with h1 _; exact ⟨_, _, _, h1⟩
  obtain ⟨A, len, cap, rfl⟩ := hs
  obtain ⟨l, hl⟩ := open_slB ht hc hsz hg hel ⟨A, len, cap, rfl⟩ (d := x.1) (ps := x.2) ⟨n, by simpa [Value.cells] using h⟩
  exact ⟨l, hl, rfl⟩
theorem int_rng {n : Int} (h : (Lit.int .i64 n).wf = true) : -9223372036854775808 ≤ n ∧ n < 9223372036854775808 := by
  simp [Lit.wf, IntKind.min, IntKind.max, IntKind.signed, IntKind.bits] at h
  omega
theorem open_intA {t : TypeId} (ht : P.underlying t = some (.int .i64))
    {v : Value} {d : DataW H} {ps : List MemPlace} {b0 : Nat} (hv : Value.okWide P W .any b0 t v) (h : DataW.Trod enc P W 0 (fun _ => true) true t v d ps) : ∃ n : Int, Rep (oldE W) W (.int .i64 n) v ∧ -9223372036854775808 ≤ n ∧ n < 9223372036854775808 := by
  obtain ⟨n, rfl⟩ := okWide_int ht hv
  obtain ⟨fuel, h⟩ := h
  obtain ⟨k, e, _, hw⟩ := DataW.trod_int ht h
  simp [Value.cells] at e
  subst e
  exact ⟨n, .int _ _, int_rng hw⟩
end
end Go.Abs
