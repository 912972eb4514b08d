/- Own texts, part 7. -/
import Derived.Test.YtpijifiekgbjnaaGreatDoorPart6

namespace Go.Abs
open Go.Proofs L8
theorem w3 (m k n t : Int) (s o : List UInt8) (fs : List AV) : (pureW PZ (GZ m) XW (tbl [(10, s10), (11, s11a), (12, s12), (13, s12), (14, s14), (15, s14)]) (itbl []) nAn [] 3 [vA k n s, tyA t fs o] tA) =
(∃ (b : Bool),
  CallIs (some (AV.bool true, [])) (AV.bool b) [] ∧
    (b = true →
        ∃ (b : Bool),
 CallIs (some (AV.bool (shortB s), [])) (AV.bool b) [] ∧
 (b = true →
 ∃ (n_1 : Int),
 CallIs
 (tbl [(nat_lit 10, s10), (nat_lit 11, s11a), (nat_lit 12, s12), (nat_lit 13, s12), (nat_lit 14, s14), (nat_lit 15, s14)] (nat_lit 12)
 [AV.agg [AV.int IntKind.i64 k, AV.int IntKind.i64 n, AV.str s]])
 (AV.int IntKind.i64 n_1) [] ∧
 ∃ (n_2 : Int),
 CallIs
 (tbl [(nat_lit 10, s10), (nat_lit 11, s11a), (nat_lit 12, s12), (nat_lit 13, s12), (nat_lit 14, s14), (nat_lit 15, s14)] (nat_lit 13)
 [AV.agg [AV.int IntKind.i64 k, AV.int IntKind.i64 n, AV.str s]])
 (AV.int IntKind.i64 n_2) [] ∧
 ((n_1 == n_2) = true →
 ∃ (b : Bool),
 CallIs
 (tbl [(nat_lit 10, s10), (nat_lit 11, s11a), (nat_lit 12, s12), (nat_lit 13, s12), (nat_lit 14, s14), (nat_lit 15, s14)]
 (nat_lit 14)
 [AV.agg [AV.int IntKind.i64 k, AV.int IntKind.i64 n, AV.str s],
 AV.agg [AV.int IntKind.i64 t, AV.sl (nat_lit 2) fs Own.no, AV.str o]])
 (AV.bool b) [] ∧
 (b = true →
 ∃ (b : Bool),
 CallIs
 (tbl
 [(nat_lit 10, s10), (nat_lit 11, s11a), (nat_lit 12, s12), (nat_lit 13, s12), (nat_lit 14, s14), (nat_lit 15, s14)]
 (nat_lit 15)
 [AV.agg [AV.int IntKind.i64 k, AV.int IntKind.i64 n, AV.str s],
 AV.agg [AV.int IntKind.i64 t, AV.sl (nat_lit 2) fs Own.no, AV.str o]])
 (AV.bool b) [] ∧
 (b = true →
 (true = true → RetIs (AV.bool true) [] (AV.bool true, [])) ∧
 (true = false → RetIs (AV.bool false) [] (AV.bool true, []))) ∧
 (b = false →
 (false = true → RetIs (AV.bool true) [] (AV.bool true, [])) ∧
 (false = false → RetIs (AV.bool false) [] (AV.bool true, [])))) ∧
 (b = false →
 ∃ (b : Bool),
 CallIs
 (tbl
 [(nat_lit 10, s10), (nat_lit 11, s11a), (nat_lit 12, s12), (nat_lit 13, s12), (nat_lit 14, s14), (nat_lit 15, s14)]
 (nat_lit 15)
 [AV.agg [AV.int IntKind.i64 k, AV.int IntKind.i64 n, AV.str s],
 AV.agg [AV.int IntKind.i64 t, AV.sl (nat_lit 2) fs Own.no, AV.str o]])
 (AV.bool b) [] ∧
 (b = true →
 (false = true → RetIs (AV.bool true) [] (AV.bool true, [])) ∧
 (false = false → RetIs (AV.bool false) [] (AV.bool true, []))) ∧
 (b = false →
 (true = true → RetIs (AV.bool true) [] (AV.bool true, [])) ∧
 (true = false → RetIs (AV.bool false) [] (AV.bool true, []))))) ∧
 ((n_1 == n_2) = false → RetIs (AV.bool false) [] (AV.bool true, []))) ∧
 (b = false → RetIs (AV.bool true) [] (AV.bool true, []))) ∧
      (b = false → RetIs (AV.bool false) [] (AV.bool true, []))) := by kernel_rfl
theorem w4 (m at_ k n : Int) (bs s : List UInt8) : (pureW PZ (GZ m) XW (tbl [(10, s10), (11, s11a), (16, s16), (17, s16), (18, s18), (19, s19)]) (itbl []) nAn [] 4 [bytesA bs, .int .i64 at_, vA k n s] tA) =
(∃ (b : Bool),
  CallIs (some (AV.bool true, [])) (AV.bool b) [] ∧
    (b = true →
        (decide ((↑(bytesL bs).length : Int) > (600 : Int)) = true → RetIs (AV.bool true) [] (AV.bool true, [])) ∧
 (decide ((↑(bytesL bs).length : Int) > (600 : Int)) = false →
 ∃ (b : Bool),
 CallIs (some (AV.bool (shortB s), [])) (AV.bool b) [] ∧
 (b = true →
 ∃ (n_1 : Int),
 ∃ (n_2 : Int),
 ∃ (s_1 : List UInt8),
 ∃ (n_3 : Int),
 ∃ (n_4 : Int),
 CallIs
 (tbl [(nat_lit 10, s10), (nat_lit 11, s11a), (nat_lit 16, s16), (nat_lit 17, s16), (nat_lit 18, s18), (nat_lit 19, s19)]
 (nat_lit 16) [AV.sl (nat_lit 1) (bytesL bs) Own.no, AV.int IntKind.i64 at_])
 (AV.tup [AV.agg [AV.int IntKind.i64 n_1, AV.int IntKind.i64 n_2, AV.str s_1], AV.int IntKind.i64 n_3, AV.int IntKind.i64 n_4])
 [] ∧
 ∃ (n_5 : Int),
 ∃ (n_6 : Int),
 ∃ (s_2 : List UInt8),
 ∃ (n_7 : Int),
 ∃ (n_8 : Int),
 CallIs
 (tbl
 [(nat_lit 10, s10), (nat_lit 11, s11a), (nat_lit 16, s16), (nat_lit 17, s16), (nat_lit 18, s18),
 (nat_lit 19, s19)]
 (nat_lit 17) [AV.sl (nat_lit 1) (bytesL bs) Own.no, AV.int IntKind.i64 at_])
 (AV.tup
 [AV.agg [AV.int IntKind.i64 n_5, AV.int IntKind.i64 n_6, AV.str s_2], AV.int IntKind.i64 n_7,
 AV.int IntKind.i64 n_8])
 [] ∧
 ((n_1 == n_5 && (n_2 == n_6 && (s_1 == s_2 && true))) = true →
 ((n_3 == n_7) = true →
 ((n_4 == n_8) = true →
 ∃ (es : List AV),
 CallIs
 (tbl
 [(nat_lit 10, s10), (nat_lit 11, s11a), (nat_lit 16, s16), (nat_lit 17, s16), (nat_lit 18, s18),
 (nat_lit 19, s19)]
 (nat_lit 18)
 [AV.sl (nat_lit 1) (bytesL bs) Own.no,
 AV.agg [AV.int IntKind.i64 k, AV.int IntKind.i64 n, AV.str s]])
 (AV.sl (nat_lit 1) es (Own.tok (nat_lit 0))) [(es.length, nat_lit 5)] ∧
 (nat_lit 1 = nat_lit 1 ∨ es = []) ∧
 ∃ (l : List UInt8),
 List.mapM byteOf es = some l ∧
 ∃ (es : List AV),
 CallIs
 (tbl
 [(nat_lit 10, s10), (nat_lit 11, s11a), (nat_lit 16, s16), (nat_lit 17, s16),
 (nat_lit 18, s18), (nat_lit 19, s19)]
 (nat_lit 19)
 [AV.sl (nat_lit 1) (bytesL bs) Own.no,
 AV.agg [AV.int IntKind.i64 k, AV.int IntKind.i64 n, AV.str s]])
 (AV.sl (nat_lit 1) es Own.no) [] ∧
 (nat_lit 1 = nat_lit 1 ∨ es = []) ∧
 ∃ (l_1 : List UInt8),
 List.mapM byteOf es = some l_1 ∧
 ((l == l_1) = true → RetIs (AV.bool true) [] (AV.bool true, [])) ∧
 ((l == l_1) = false → RetIs (AV.bool false) [] (AV.bool true, []))) ∧
 ((n_4 == n_8) = false → RetIs (AV.bool false) [] (AV.bool true, []))) ∧
 ((n_3 == n_7) = false → RetIs (AV.bool false) [] (AV.bool true, []))) ∧
 ((n_1 == n_5 && (n_2 == n_6 && (s_1 == s_2 && true))) = false → RetIs (AV.bool false) [] (AV.bool true, []))) ∧
 (b = false → RetIs (AV.bool true) [] (AV.bool true, [])))) ∧
      (b = false → RetIs (AV.bool false) [] (AV.bool true, []))) := by kernel_rfl
theorem w5 (m k n : Int) (t s : List UInt8) : (pureW PZ (GZ m) XW (tbl [(10, s10), (11, s11a), (20, s20), (21, s20), (22, s22), (23, s22)]) (itbl []) nAn [] 5 [.str t, vA k n s] tA) =
(∃ (b : Bool),
  CallIs (some (AV.bool true, [])) (AV.bool b) [] ∧
    (b = true →
        (decide ((↑t.length : Int) > (300 : Int)) = true → RetIs (AV.bool true) [] (AV.bool true, [])) ∧
 (decide ((↑t.length : Int) > (300 : Int)) = false →
 ∃ (b : Bool),
 CallIs (some (AV.bool (shortB s), [])) (AV.bool b) [] ∧
 (b = true →
 ∃ (n_1 : Int),
 ∃ (n_2 : Int),
 ∃ (s_1 : List UInt8),
 ∃ (n_3 : Int),
 CallIs
 (tbl [(nat_lit 10, s10), (nat_lit 11, s11a), (nat_lit 20, s20), (nat_lit 21, s20), (nat_lit 22, s22), (nat_lit 23, s22)]
 (nat_lit 20) [AV.str t])
 (AV.tup [AV.agg [AV.int IntKind.i64 n_1, AV.int IntKind.i64 n_2, AV.str s_1], AV.int IntKind.i64 n_3]) [] ∧
 ∃ (n_4 : Int),
 ∃ (n_5 : Int),
 ∃ (s_2 : List UInt8),
 ∃ (n_6 : Int),
 CallIs
 (tbl
 [(nat_lit 10, s10), (nat_lit 11, s11a), (nat_lit 20, s20), (nat_lit 21, s20), (nat_lit 22, s22), (nat_lit 23, s22)]
 (nat_lit 21) [AV.str t])
 (AV.tup [AV.agg [AV.int IntKind.i64 n_4, AV.int IntKind.i64 n_5, AV.str s_2], AV.int IntKind.i64 n_6]) [] ∧
 ((n_1 == n_4 && (n_2 == n_5 && (s_1 == s_2 && true))) = true →
 ((n_3 == n_6) = true →
 ∃ (s_3 : List UInt8),
 CallIs
 (tbl
 [(nat_lit 10, s10), (nat_lit 11, s11a), (nat_lit 20, s20), (nat_lit 21, s20), (nat_lit 22, s22),
 (nat_lit 23, s22)]
 (nat_lit 22) [AV.agg [AV.int IntKind.i64 k, AV.int IntKind.i64 n, AV.str s]])
 (AV.str s_3) [] ∧
 ∃ (s_4 : List UInt8),
 CallIs
 (tbl
 [(nat_lit 10, s10), (nat_lit 11, s11a), (nat_lit 20, s20), (nat_lit 21, s20), (nat_lit 22, s22),
 (nat_lit 23, s22)]
 (nat_lit 23) [AV.agg [AV.int IntKind.i64 k, AV.int IntKind.i64 n, AV.str s]])
 (AV.str s_4) [] ∧
 ((s_3 == s_4) = true → RetIs (AV.bool true) [] (AV.bool true, [])) ∧
 ((s_3 == s_4) = false → RetIs (AV.bool false) [] (AV.bool true, []))) ∧
 ((n_3 == n_6) = false → RetIs (AV.bool false) [] (AV.bool true, []))) ∧
 ((n_1 == n_4 && (n_2 == n_5 && (s_1 == s_2 && true))) = false → RetIs (AV.bool false) [] (AV.bool true, []))) ∧
 (b = false → RetIs (AV.bool true) [] (AV.bool true, [])))) ∧
      (b = false → RetIs (AV.bool false) [] (AV.bool true, []))) := by kernel_rfl
theorem w6 (m k n : Int) (bs s ms : List UInt8) : (pureW PZ (GZ m) XW (tbl [(10, s10), (11, s11a), (24, s24), (18, s18), (16, s16), (12, s12)]) (itbl []) (f6A k n s ms) [] 6 [bytesA bs, vA k n s, bytesA ms] tA) =
(∃ (b : Bool),
  CallIs (some (AV.bool true, [])) (AV.bool b) [] ∧
    (b = true →
        (decide ((↑(bytesL bs).length : Int) > (300 : Int)) = true → RetIs (AV.bool true) [] (AV.bool true, [])) ∧
 (decide ((↑(bytesL bs).length : Int) > (300 : Int)) = false →
 (decide ((↑(bytesL ms).length : Int) > (300 : Int)) = true → RetIs (AV.bool true) [] (AV.bool true, [])) ∧
 (decide ((↑(bytesL ms).length : Int) > (300 : Int)) = false →
 ∃ (b : Bool),
 CallIs (some (AV.bool (shortB s), [])) (AV.bool b) [] ∧
 (b = true →
 (∃ (b : Bool),
 CallIs
 (tbl [(nat_lit 10, s10), (nat_lit 11, s11a), (nat_lit 24, s24), (nat_lit 18, s18), (nat_lit 16, s16), (nat_lit 12, s12)]
 (nat_lit 24) [AV.agg [AV.int IntKind.i64 k, AV.int IntKind.i64 n, AV.str s]])
 (AV.bool b) [] ∧
 (b = true →
 ∃ (es : List AV),
 CallIs
 (tbl [(nat_lit 10, s10), (nat_lit 11, s11a), (nat_lit 24, s24), (nat_lit 18, s18), (nat_lit 16, s16), (nat_lit 12, s12)]
 (nat_lit 18) [AV.sl (nat_lit 1) (bytesL bs) Own.no, AV.agg [AV.int IntKind.i64 k, AV.int IntKind.i64 n, AV.str s]])
 (AV.sl (nat_lit 1) es (Own.tok (nat_lit 0))) [(es.length, nat_lit 5)] ∧
 (decide ((↑es.length : Int) < (↑(bytesL bs).length : Int)) = true → RetIs (AV.bool false) [] (AV.bool true, [])) ∧
 (decide ((↑es.length : Int) < (↑(bytesL bs).length : Int)) = false →
 (0 : Int) ≤ (↑(bytesL bs).length : Int) ∧
 (nat_lit 0 ≤ (↑(bytesL bs).length : Int).toNat ∧ (↑(bytesL bs).length : Int).toNat ≤ es.length) ∧
 (nat_lit 1 = nat_lit 1 ∨ es = []) ∧
 (nat_lit 0 = nat_lit 0 ∧ (↑(bytesL bs).length : Int).toNat = es.length →
 (nat_lit 1 = nat_lit 1 ∨ List.drop (nat_lit 0) (List.take (↑(bytesL bs).length : Int).toNat es) = []) ∧
 ∃ (l : List UInt8),
 List.mapM byteOf (List.drop (nat_lit 0) (List.take (↑(bytesL bs).length : Int).toNat es)) = some l ∧
 (nat_lit 1 = nat_lit 1 ∨ bytesL bs = []) ∧
 ∃ (l_1 : List UInt8),
 List.mapM byteOf (bytesL bs) = some l_1 ∧
 ((!l == l_1) = true → RetIs (AV.bool false) [] (AV.bool true, [])) ∧
 ((!l == l_1) = false →
 (nat_lit 1 = nat_lit 1 ∨ ([] : List AV) = []) ∧
 ((0 : Nat) + es.length) * nat_lit 2 ≤ nat_lit 70368744177664 ∧
 (es = [] →
 (nat_lit 1 = nat_lit 1 ∨ ([] : List AV) = []) ∧
 ((0 : Nat) + (bytesL ms).length) * nat_lit 2 ≤ nat_lit 70368744177664 ∧
 (bytesL ms = [] →
 ∃ (n_1 : Int),
 ∃ (n_2 : Int),
 ∃ (s_1 : List UInt8),
 ∃ (n_3 : Int),
 ∃ (n_4 : Int),
 CallIs
 (some
 (AV.tup
 [AV.agg
 [AV.int IntKind.i64
 (readV [] (↑(bytesL bs).length : Int)).fst.k,
 AV.int IntKind.i64
 (readV [] (↑(bytesL bs).length : Int)).fst.n,
 AV.str
 (readV [] (↑(bytesL bs).length : Int)).fst.s],
 AV.int IntKind.i64
 (readV [] (↑(bytesL bs).length : Int)).snd.fst,
 AV.int IntKind.i64
 (readV [] (↑(bytesL bs).length : Int)).snd.snd],
 []))
 (AV.tup
 [AV.agg
 [AV.int IntKind.i64 n_1, AV.int IntKind.i64 n_2,
 AV.str s_1],
 AV.int IntKind.i64 n_3, AV.int IntKind.i64 n_4])
 [] ∧
 ((!(n_1 == k && (n_2 == n && (s_1 == s && true)))) = true →
 RetIs (AV.bool false) [] (AV.bool true, [])) ∧
 ((!(n_1 == k && (n_2 == n && (s_1 == s && true)))) = false →
 ((n_3 != (↑es.length : Int)) = true →
 RetIs (AV.bool false) [] (AV.bool true, [])) ∧
 ((n_3 != (↑es.length : Int)) = false →
 ((n_4 != (0 : Int)) = true →
 RetIs (AV.bool false) [] (AV.bool true, [])) ∧
 ((n_4 != (0 : Int)) = false →
 ∃ (_y : Unit),
 ValsAre
 [AV.sl (nat_lit 1) (bytesL ms) Own.no,
 AV.ptr (nat_lit 0) (nat_lit 0)]
 [AV.sl (nat_lit 1) (bytesL ms) Own.no,
 AV.ptr (nat_lit 0) (nat_lit 0)] ∧
 StIs
 { boxes := [some [AV.int IntKind.i64 k, AV.int IntKind.i64 n, AV.str s]], live := [] }
 { boxes := [some [AV.int IntKind.i64 k, AV.int IntKind.i64 n, AV.str s]], live := [] } ∧
 True ∧ True)))) ∧
 (bytesL ms ≠ [] →
 ∃ (n_1 : Int),
 ∃ (n_2 : Int),
 ∃ (s_1 : List UInt8),
 ∃ (n_3 : Int),
 ∃ (n_4 : Int),
 CallIs
 (tbl
 [(nat_lit 10, s10), (nat_lit 11, s11a), (nat_lit 24, s24),
 (nat_lit 18, s18), (nat_lit 16, s16), (nat_lit 12, s12)]
 (nat_lit 16)
 [AV.sl (nat_lit 1) ([] ++ bytesL ms) Own.no,
 AV.int IntKind.i64 (↑(bytesL bs).length : Int)])
 (AV.tup
 [AV.agg
 [AV.int IntKind.i64 n_1, AV.int IntKind.i64 n_2,
 AV.str s_1],
 AV.int IntKind.i64 n_3, AV.int IntKind.i64 n_4])
 [] ∧
 ((!(n_1 == k && (n_2 == n && (s_1 == s && true)))) = true →
 RetIs (AV.bool false) [] (AV.bool true, [])) ∧
 ((!(n_1 == k && (n_2 == n && (s_1 == s && true)))) = false →
 ((n_3 != (↑es.length : Int)) = true →
 RetIs (AV.bool false) [] (AV.bool true, [])) ∧
 ((n_3 != (↑es.length : Int)) = false →
 ((n_4 != (0 : Int)) = true →
 RetIs (AV.bool false) [] (AV.bool true, [])) ∧
 ((n_4 != (0 : Int)) = false →
 ∃ (_y : Unit),
 ValsAre
 [AV.sl (nat_lit 1) (bytesL ms) Own.no,
 AV.ptr (nat_lit 0) (nat_lit 0)]
 [AV.sl (nat_lit 1) (bytesL ms) Own.no,
 AV.ptr (nat_lit 0) (nat_lit 0)] ∧
 StIs
 { boxes := [some [AV.int IntKind.i64 k, AV.int IntKind.i64 n, AV.str s]], live := [] }
 { boxes := [some [AV.int IntKind.i64 k, AV.int IntKind.i64 n, AV.str s]], live := [] } ∧
 True ∧ True))))) ∧
 (es ≠ [] →
 (nat_lit 1 = nat_lit 1 ∨ [] ++ es = []) ∧
 (([] ++ es).length + (bytesL ms).length) * nat_lit 2 ≤ nat_lit 70368744177664 ∧
 (0 : Nat) + es.length = ([] ++ es).length ∧
 ∃ (n_1 : Int),
 ∃ (n_2 : Int),
 ∃ (s_1 : List UInt8),
 ∃ (n_3 : Int),
 ∃ (n_4 : Int),
 CallIs
 (tbl
 [(nat_lit 10, s10), (nat_lit 11, s11a), (nat_lit 24, s24),
 (nat_lit 18, s18), (nat_lit 16, s16), (nat_lit 12, s12)]
 (nat_lit 16)
 [AV.sl (nat_lit 1) ([] ++ es ++ bytesL ms) Own.no,
 AV.int IntKind.i64 (↑(bytesL bs).length : Int)])
 (AV.tup
 [AV.agg
 [AV.int IntKind.i64 n_1, AV.int IntKind.i64 n_2,
 AV.str s_1],
 AV.int IntKind.i64 n_3, AV.int IntKind.i64 n_4])
 [] ∧
 ((!(n_1 == k && (n_2 == n && (s_1 == s && true)))) = true →
 RetIs (AV.bool false) [] (AV.bool true, [])) ∧
 ((!(n_1 == k && (n_2 == n && (s_1 == s && true)))) = false →
 ((n_3 != (↑es.length : Int)) = true →
 RetIs (AV.bool false) [] (AV.bool true, [])) ∧
 ((n_3 != (↑es.length : Int)) = false →
 ((n_4 != (0 : Int)) = true →
 RetIs (AV.bool false) [] (AV.bool true, [])) ∧
 ((n_4 != (0 : Int)) = false →
 ∃ (_y : Unit),
 ValsAre
 [AV.sl (nat_lit 1) (bytesL ms) Own.no,
 AV.ptr (nat_lit 0) (nat_lit 0)]
 [AV.sl (nat_lit 1) (bytesL ms) Own.no,
 AV.ptr (nat_lit 0) (nat_lit 0)] ∧
 StIs
 { boxes := [some [AV.int IntKind.i64 k, AV.int IntKind.i64 n, AV.str s]], live := [] }
 { boxes := [some [AV.int IntKind.i64 k, AV.int IntKind.i64 n, AV.str s]], live := [] } ∧
 True ∧ True)))))) ∧
 (¬((0 : Nat) = (0 : Nat) ∧ (↑(bytesL bs).length : Int).toNat = es.length) →
 (nat_lit 1 = nat_lit 1 ∨ List.drop (nat_lit 0) (List.take (↑(bytesL bs).length : Int).toNat es) = []) ∧
 ∃ (l : List UInt8),
 List.mapM byteOf (List.drop (nat_lit 0) (List.take (↑(bytesL bs).length : Int).toNat es)) = some l ∧
 (nat_lit 1 = nat_lit 1 ∨ bytesL bs = []) ∧
 ∃ (l_1 : List UInt8),
 List.mapM byteOf (bytesL bs) = some l_1 ∧
 ((!l == l_1) = true → RetIs (AV.bool false) [] (AV.bool true, [])) ∧
 ((!l == l_1) = false →
 (nat_lit 1 = nat_lit 1 ∨ ([] : List AV) = []) ∧
 ((0 : Nat) + es.length) * nat_lit 2 ≤ nat_lit 70368744177664 ∧
 (es = [] →
 (nat_lit 1 = nat_lit 1 ∨ ([] : List AV) = []) ∧
 ((0 : Nat) + (bytesL ms).length) * nat_lit 2 ≤ nat_lit 70368744177664 ∧
 (bytesL ms = [] →
 ∃ (n_1 : Int),
 ∃ (n_2 : Int),
 ∃ (s_1 : List UInt8),
 ∃ (n_3 : Int),
 ∃ (n_4 : Int),
 CallIs
 (some
 (AV.tup
 [AV.agg
 [AV.int IntKind.i64
 (readV [] (↑(bytesL bs).length : Int)).fst.k,
 AV.int IntKind.i64
 (readV [] (↑(bytesL bs).length : Int)).fst.n,
 AV.str
 (readV [] (↑(bytesL bs).length : Int)).fst.s],
 AV.int IntKind.i64
 (readV [] (↑(bytesL bs).length : Int)).snd.fst,
 AV.int IntKind.i64
 (readV [] (↑(bytesL bs).length : Int)).snd.snd],
 []))
 (AV.tup
 [AV.agg
 [AV.int IntKind.i64 n_1, AV.int IntKind.i64 n_2,
 AV.str s_1],
 AV.int IntKind.i64 n_3, AV.int IntKind.i64 n_4])
 [] ∧
 ((!(n_1 == k && (n_2 == n && (s_1 == s && true)))) = true →
 RetIs (AV.bool false) [] (AV.bool true, [])) ∧
 ((!(n_1 == k && (n_2 == n && (s_1 == s && true)))) = false →
 ((n_3 != (↑es.length : Int)) = true →
 RetIs (AV.bool false) [] (AV.bool true, [])) ∧
 ((n_3 != (↑es.length : Int)) = false →
 ((n_4 != (0 : Int)) = true →
 RetIs (AV.bool false) [] (AV.bool true, [])) ∧
 ((n_4 != (0 : Int)) = false →
 ∃ (_y : Unit),
 ValsAre
 [AV.sl (nat_lit 1) (bytesL ms) Own.no,
 AV.ptr (nat_lit 0) (nat_lit 0)]
 [AV.sl (nat_lit 1) (bytesL ms) Own.no,
 AV.ptr (nat_lit 0) (nat_lit 0)] ∧
 StIs
 { boxes := [some [AV.int IntKind.i64 k, AV.int IntKind.i64 n, AV.str s]], live := [] }
 { boxes := [some [AV.int IntKind.i64 k, AV.int IntKind.i64 n, AV.str s]], live := [] } ∧
 True ∧ True)))) ∧
 (bytesL ms ≠ [] →
 ∃ (n_1 : Int),
 ∃ (n_2 : Int),
 ∃ (s_1 : List UInt8),
 ∃ (n_3 : Int),
 ∃ (n_4 : Int),
 CallIs
 (tbl
 [(nat_lit 10, s10), (nat_lit 11, s11a), (nat_lit 24, s24),
 (nat_lit 18, s18), (nat_lit 16, s16), (nat_lit 12, s12)]
 (nat_lit 16)
 [AV.sl (nat_lit 1) ([] ++ bytesL ms) Own.no,
 AV.int IntKind.i64 (↑(bytesL bs).length : Int)])
 (AV.tup
 [AV.agg
 [AV.int IntKind.i64 n_1, AV.int IntKind.i64 n_2,
 AV.str s_1],
 AV.int IntKind.i64 n_3, AV.int IntKind.i64 n_4])
 [] ∧
 ((!(n_1 == k && (n_2 == n && (s_1 == s && true)))) = true →
 RetIs (AV.bool false) [] (AV.bool true, [])) ∧
 ((!(n_1 == k && (n_2 == n && (s_1 == s && true)))) = false →
 ((n_3 != (↑es.length : Int)) = true →
 RetIs (AV.bool false) [] (AV.bool true, [])) ∧
 ((n_3 != (↑es.length : Int)) = false →
 ((n_4 != (0 : Int)) = true →
 RetIs (AV.bool false) [] (AV.bool true, [])) ∧
 ((n_4 != (0 : Int)) = false →
 ∃ (_y : Unit),
 ValsAre
 [AV.sl (nat_lit 1) (bytesL ms) Own.no,
 AV.ptr (nat_lit 0) (nat_lit 0)]
 [AV.sl (nat_lit 1) (bytesL ms) Own.no,
 AV.ptr (nat_lit 0) (nat_lit 0)] ∧
 StIs
 { boxes := [some [AV.int IntKind.i64 k, AV.int IntKind.i64 n, AV.str s]], live := [] }
 { boxes := [some [AV.int IntKind.i64 k, AV.int IntKind.i64 n, AV.str s]], live := [] } ∧
 True ∧ True))))) ∧
 (es ≠ [] →
 (nat_lit 1 = nat_lit 1 ∨ [] ++ es = []) ∧
 (([] ++ es).length + (bytesL ms).length) * nat_lit 2 ≤ nat_lit 70368744177664 ∧
 (0 : Nat) + es.length = ([] ++ es).length ∧
 ∃ (n_1 : Int),
 ∃ (n_2 : Int),
 ∃ (s_1 : List UInt8),
 ∃ (n_3 : Int),
 ∃ (n_4 : Int),
 CallIs
 (tbl
 [(nat_lit 10, s10), (nat_lit 11, s11a), (nat_lit 24, s24),
 (nat_lit 18, s18), (nat_lit 16, s16), (nat_lit 12, s12)]
 (nat_lit 16)
 [AV.sl (nat_lit 1) ([] ++ es ++ bytesL ms) Own.no,
 AV.int IntKind.i64 (↑(bytesL bs).length : Int)])
 (AV.tup
 [AV.agg
 [AV.int IntKind.i64 n_1, AV.int IntKind.i64 n_2,
 AV.str s_1],
 AV.int IntKind.i64 n_3, AV.int IntKind.i64 n_4])
 [] ∧
 ((!(n_1 == k && (n_2 == n && (s_1 == s && true)))) = true →
 RetIs (AV.bool false) [] (AV.bool true, [])) ∧
 ((!(n_1 == k && (n_2 == n && (s_1 == s && true)))) = false →
 ((n_3 != (↑es.length : Int)) = true →
 RetIs (AV.bool false) [] (AV.bool true, [])) ∧
 ((n_3 != (↑es.length : Int)) = false →
 ((n_4 != (0 : Int)) = true →
 RetIs (AV.bool false) [] (AV.bool true, [])) ∧
 ((n_4 != (0 : Int)) = false →
 ∃ (_y : Unit),
 ValsAre
 [AV.sl (nat_lit 1) (bytesL ms) Own.no,
 AV.ptr (nat_lit 0) (nat_lit 0)]
 [AV.sl (nat_lit 1) (bytesL ms) Own.no,
 AV.ptr (nat_lit 0) (nat_lit 0)] ∧
 StIs
 { boxes := [some [AV.int IntKind.i64 k, AV.int IntKind.i64 n, AV.str s]], live := [] }
 { boxes := [some [AV.int IntKind.i64 k, AV.int IntKind.i64 n, AV.str s]], live := [] } ∧
 True ∧ True)))))))) ∧
 (b = false →
 ∃ (_y : Unit),
 ValsAre [AV.sl (nat_lit 1) (bytesL ms) Own.no, AV.ptr (nat_lit 0) (nat_lit 0)]
 [AV.sl (nat_lit 1) (bytesL ms) Own.no, AV.ptr (nat_lit 0) (nat_lit 0)] ∧
 StIs { boxes := [some [AV.int IntKind.i64 k, AV.int IntKind.i64 n, AV.str s]], live := [] }
 { boxes := [some [AV.int IntKind.i64 k, AV.int IntKind.i64 n, AV.str s]], live := [] } ∧
 True ∧ True)) ∧
 ∀ (_x : Unit),
 True →
 True →
 ∃ (n : Int),
 ∃ (n_1 : Int),
 ∃ (s : List UInt8),
 ∃ (n_2 : Int),
 ∃ (n_3 : Int),
 CallIs
 (tbl
 [(nat_lit 10, s10), (nat_lit 11, s11a), (nat_lit 24, s24), (nat_lit 18, s18), (nat_lit 16, s16),
 (nat_lit 12, s12)]
 (nat_lit 16) [AV.sl (nat_lit 1) (bytesL ms) Own.no, AV.int IntKind.i64 (0 : Int)])
 (AV.tup
 [AV.agg [AV.int IntKind.i64 n, AV.int IntKind.i64 n_1, AV.str s], AV.int IntKind.i64 n_2,
 AV.int IntKind.i64 n_3])
 [] ∧
 ((n_3 != (0 : Int)) = true →
 ((n == (0 : Int) && (n_1 == (0 : Int) && (s == [] && true))) = true →
 ((n_2 == (0 : Int)) = true → RetIs (AV.bool true) [] (AV.bool true, [])) ∧
 ((n_2 == (0 : Int)) = false → RetIs (AV.bool false) [] (AV.bool true, []))) ∧
 ((n == (0 : Int) && (n_1 == (0 : Int) && (s == [] && true))) = false →
 RetIs (AV.bool false) [] (AV.bool true, []))) ∧
 ((n_3 != (0 : Int)) = false →
 (decide (n_2 ≤ (↑(bytesL ms).length : Int)) = true →
 ∃ (n_4 : Int),
 CallIs
 (tbl
 [(nat_lit 10, s10), (nat_lit 11, s11a), (nat_lit 24, s24), (nat_lit 18, s18), (nat_lit 16, s16),
 (nat_lit 12, s12)]
 (nat_lit 12) [AV.agg [AV.int IntKind.i64 n, AV.int IntKind.i64 n_1, AV.str s]])
 (AV.int IntKind.i64 n_4) [] ∧
 ((n_4 == (0 : Int)) = true →
 ∃ (es : List AV),
 CallIs
 (tbl
 [(nat_lit 10, s10), (nat_lit 11, s11a), (nat_lit 24, s24), (nat_lit 18, s18),
 (nat_lit 16, s16), (nat_lit 12, s12)]
 (nat_lit 18)
 [AV.sl (nat_lit 0) [] Own.nil,
 AV.agg [AV.int IntKind.i64 n, AV.int IntKind.i64 n_1, AV.str s]])
 (AV.sl (nat_lit 1) es (Own.tok (nat_lit 0))) [(es.length, nat_lit 5)] ∧
 (nat_lit 1 = nat_lit 1 ∨ es = []) ∧
 ∃ (l : List UInt8),
 List.mapM byteOf es = some l ∧
 (0 : Int) ≤ max n_2 (0 : Int) ∧
 (nat_lit 0 ≤ (max n_2 (0 : Int)).toNat ∧
 (max n_2 (0 : Int)).toNat ≤ (bytesL ms).length) ∧
 (nat_lit 1 = nat_lit 1 ∨ bytesL ms = []) ∧
 (nat_lit 1 = nat_lit 1 ∨
 List.drop (nat_lit 0) (List.take (max n_2 (0 : Int)).toNat (bytesL ms)) = []) ∧
 ∃ (l_1 : List UInt8),
 List.mapM byteOf
 (List.drop (nat_lit 0)
 (List.take (max n_2 (0 : Int)).toNat (bytesL ms))) =
 some l_1 ∧
 ((l == l_1) = true → RetIs (AV.bool true) [] (AV.bool true, [])) ∧
 ((l == l_1) = false → RetIs (AV.bool false) [] (AV.bool true, []))) ∧
 ((n_4 == (0 : Int)) = false → RetIs (AV.bool false) [] (AV.bool true, []))) ∧
 (decide (n_2 ≤ (↑(bytesL ms).length : Int)) = false → RetIs (AV.bool false) [] (AV.bool true, [])))) ∧
 (b = false → RetIs (AV.bool true) [] (AV.bool true, []))))) ∧
      (b = false → RetIs (AV.bool false) [] (AV.bool true, []))) := by kernel_rfl
theorem w7 (m k n k' n' : Int) (s s' t : List UInt8) : (pureW PZ (GZ m) XW (tbl [(10, s10), (11, s11a), (24, s24), (18, s18), (20, s20), (12, s12), (22, s22)]) (itbl []) (f7A k n s k' n' s') [] 7 [vA k n s, vA k' n' s', .str t] tA) =
(∃ (b : Bool),
  CallIs (some (AV.bool true, [])) (AV.bool b) [] ∧
    (b = true →
        ∃ (b : Bool),
 CallIs (some (AV.bool (shortB s), [])) (AV.bool b) [] ∧
 (b = true →
 ∃ (b : Bool),
 CallIs (some (AV.bool (shortB s'), [])) (AV.bool b) [] ∧
 (b = true →
 (decide ((↑t.length : Int) > (300 : Int)) = true → RetIs (AV.bool true) [] (AV.bool true, [])) ∧
 (decide ((↑t.length : Int) > (300 : Int)) = false →
 ∃ (n_1 : Int),
 ∃ (n_2 : Int),
 ∃ (s_1 : List UInt8),
 ∃ (n_3 : Int),
 CallIs
 (tbl
 [(nat_lit 10, s10), (nat_lit 11, s11a), (nat_lit 24, s24), (nat_lit 18, s18), (nat_lit 20, s20), (nat_lit 12, s12),
 (nat_lit 22, s22)]
 (nat_lit 20) [AV.str t])
 (AV.tup [AV.agg [AV.int IntKind.i64 n_1, AV.int IntKind.i64 n_2, AV.str s_1], AV.int IntKind.i64 n_3]) [] ∧
 (((n_3 == (0 : Int)) = true →
 ∃ (s_2 : List UInt8),
 CallIs
 (tbl
 [(nat_lit 10, s10), (nat_lit 11, s11a), (nat_lit 24, s24), (nat_lit 18, s18), (nat_lit 20, s20),
 (nat_lit 12, s12), (nat_lit 22, s22)]
 (nat_lit 22) [AV.agg [AV.int IntKind.i64 n_1, AV.int IntKind.i64 n_2, AV.str s_1]])
 (AV.str s_2) [] ∧
 ((!s_2 == t) = true → RetIs (AV.bool false) [] (AV.bool true, [])) ∧
 ((!s_2 == t) = false →
 ∃ (n_4 : Int),
 CallIs
 (tbl
 [(nat_lit 10, s10), (nat_lit 11, s11a), (nat_lit 24, s24), (nat_lit 18, s18), (nat_lit 20, s20),
 (nat_lit 12, s12), (nat_lit 22, s22)]
 (nat_lit 12) [AV.agg [AV.int IntKind.i64 n_1, AV.int IntKind.i64 n_2, AV.str s_1]])
 (AV.int IntKind.i64 n_4) [] ∧
 ((n_4 != (0 : Int)) = true → RetIs (AV.bool false) [] (AV.bool true, [])) ∧
 ((n_4 != (0 : Int)) = false →
 ∃ (y : V3),
 ValsAre [AV.ptr (nat_lit 0) (nat_lit 0), AV.ptr (nat_lit 1) (nat_lit 0)]
 [AV.ptr (nat_lit 0) (nat_lit 0), AV.ptr (nat_lit 1) (nat_lit 0)] ∧
 StIs
 { boxes := [some [AV.int IntKind.i64 k, AV.int IntKind.i64 n, AV.str s], some [AV.int IntKind.i64 k', AV.int IntKind.i64 n', AV.str s'], some [AV.int IntKind.i64 n_1, AV.int IntKind.i64 n_2, AV.str s_1]], live := [] }
 { boxes := [some [AV.int IntKind.i64 k, AV.int IntKind.i64 n, AV.str s], some [AV.int IntKind.i64 k', AV.int IntKind.i64 n', AV.str s'], some [AV.int IntKind.i64 y.k, AV.int IntKind.i64 y.n, AV.str y.s]], live := [] } ∧
 True ∧ True))) ∧
 ((n_3 == (0 : Int)) = false →
 ∃ (y : V3),
 ValsAre [AV.ptr (nat_lit 0) (nat_lit 0), AV.ptr (nat_lit 1) (nat_lit 0)]
 [AV.ptr (nat_lit 0) (nat_lit 0), AV.ptr (nat_lit 1) (nat_lit 0)] ∧
 StIs
 { boxes := [some [AV.int IntKind.i64 k, AV.int IntKind.i64 n, AV.str s], some [AV.int IntKind.i64 k', AV.int IntKind.i64 n', AV.str s'], some [AV.int IntKind.i64 n_1, AV.int IntKind.i64 n_2, AV.str s_1]], live := [] }
 { boxes := [some [AV.int IntKind.i64 k, AV.int IntKind.i64 n, AV.str s], some [AV.int IntKind.i64 k', AV.int IntKind.i64 n', AV.str s'], some [AV.int IntKind.i64 y.k, AV.int IntKind.i64 y.n, AV.str y.s]], live := [] } ∧
 True ∧ True)) ∧
 ∀ (x : V3),
 True →
 True →
 (∃ (b : Bool),
 CallIs
 (tbl
 [(nat_lit 10, s10), (nat_lit 11, s11a), (nat_lit 24, s24), (nat_lit 18, s18), (nat_lit 20, s20),
 (nat_lit 12, s12), (nat_lit 22, s22)]
 (nat_lit 24) [AV.agg [AV.int IntKind.i64 k, AV.int IntKind.i64 n, AV.str s]])
 (AV.bool b) [] ∧
 (b = true →
 ∃ (b : Bool),
 CallIs
 (tbl
 [(nat_lit 10, s10), (nat_lit 11, s11a), (nat_lit 24, s24), (nat_lit 18, s18), (nat_lit 20, s20),
 (nat_lit 12, s12), (nat_lit 22, s22)]
 (nat_lit 24) [AV.agg [AV.int IntKind.i64 k', AV.int IntKind.i64 n', AV.str s']])
 (AV.bool b) [] ∧
 (b = true →
 ∃ (y : V3),
 ValsAre [AV.ptr (nat_lit 0) (nat_lit 0), AV.ptr (nat_lit 1) (nat_lit 0)]
 [AV.ptr (nat_lit 0) (nat_lit 0), AV.ptr (nat_lit 1) (nat_lit 0)] ∧
 StIs
 { boxes := [some [AV.int IntKind.i64 k, AV.int IntKind.i64 n, AV.str s], some [AV.int IntKind.i64 k', AV.int IntKind.i64 n', AV.str s'], some [AV.int IntKind.i64 x.k, AV.int IntKind.i64 x.n, AV.str x.s]], live := [] }
 { boxes := [some [AV.int IntKind.i64 k, AV.int IntKind.i64 n, AV.str s], some [AV.int IntKind.i64 k', AV.int IntKind.i64 n', AV.str s'], some [AV.int IntKind.i64 y.k, AV.int IntKind.i64 y.n, AV.str y.s]], live := [] } ∧
 (validB k n s = true ∧ validB k' n' s' = true) ∧ True) ∧
 (b = false → RetIs (AV.bool true) [] (AV.bool true, []))) ∧
 (b = false → RetIs (AV.bool true) [] (AV.bool true, []))) ∧
 ∀ (x : V3),
 validB k n s = true ∧ validB k' n' s' = true →
 True →
 ∃ (s_2 : List UInt8),
 CallIs
 (tbl
 [(nat_lit 10, s10), (nat_lit 11, s11a), (nat_lit 24, s24), (nat_lit 18, s18), (nat_lit 20, s20),
 (nat_lit 12, s12), (nat_lit 22, s22)]
 (nat_lit 22) [AV.agg [AV.int IntKind.i64 k, AV.int IntKind.i64 n, AV.str s]])
 (AV.str s_2) [] ∧
 ∃ (s_3 : List UInt8),
 CallIs
 (tbl
 [(nat_lit 10, s10), (nat_lit 11, s11a), (nat_lit 24, s24), (nat_lit 18, s18),
 (nat_lit 20, s20), (nat_lit 12, s12), (nat_lit 22, s22)]
 (nat_lit 22) [AV.agg [AV.int IntKind.i64 k', AV.int IntKind.i64 n', AV.str s']])
 (AV.str s_3) [] ∧
 ∃ (n_4 : Int),
 ∃ (n_5 : Int),
 ∃ (s_4 : List UInt8),
 ∃ (n_6 : Int),
 CallIs
 (tbl
 [(nat_lit 10, s10), (nat_lit 11, s11a), (nat_lit 24, s24), (nat_lit 18, s18),
 (nat_lit 20, s20), (nat_lit 12, s12), (nat_lit 22, s22)]
 (nat_lit 20) [AV.str s_2])
 (AV.tup
 [AV.agg [AV.int IntKind.i64 n_4, AV.int IntKind.i64 n_5, AV.str s_4],
 AV.int IntKind.i64 n_6])
 [] ∧
 (((!(n_4 == k && (n_5 == n && (s_4 == s && true)))) = true →
 RetIs (AV.bool false) [] (AV.bool true, [])) ∧
 ((!(n_4 == k && (n_5 == n && (s_4 == s && true)))) = false →
 ((n_6 != (0 : Int)) = true → RetIs (AV.bool false) [] (AV.bool true, [])) ∧
 ((n_6 != (0 : Int)) = false →
 ((s_2 == s_3) = true →
 ((k == k' && (n == n' && (s == s' && true))) = true →
 (false = true → RetIs (AV.bool false) [] (AV.bool true, [])) ∧
 (false = false →
 ∃ (y : V3 × V3),
 ValsAre
 [AV.ptr (nat_lit 0) (nat_lit 0),
 AV.ptr (nat_lit 1) (nat_lit 0)]
 [AV.ptr (nat_lit 0) (nat_lit 0),
 AV.ptr (nat_lit 1) (nat_lit 0)] ∧
 StIs
 { boxes := [some [AV.int IntKind.i64 k, AV.int IntKind.i64 n, AV.str s], some [AV.int IntKind.i64 k', AV.int IntKind.i64 n', AV.str s'], some [AV.int IntKind.i64 x.k, AV.int IntKind.i64 x.n, AV.str x.s], some [AV.int IntKind.i64 n_4, AV.int IntKind.i64 n_5, AV.str s_4]], live := [] }
 { boxes := [some [AV.int IntKind.i64 k, AV.int IntKind.i64 n, AV.str s], some [AV.int IntKind.i64 k', AV.int IntKind.i64 n', AV.str s'], some [AV.int IntKind.i64 y.fst.k, AV.int IntKind.i64 y.fst.n, AV.str y.fst.s], some [AV.int IntKind.i64 y.snd.k, AV.int IntKind.i64 y.snd.n, AV.str y.snd.s]], live := [] } ∧
 (validB k n s = true ∧ validB k' n' s' = true) ∧ True)) ∧
 ((k == k' && (n == n' && (s == s' && true))) = false →
 (true = true → RetIs (AV.bool false) [] (AV.bool true, [])) ∧
 (true = false →
 ∃ (y : V3 × V3),
 ValsAre
 [AV.ptr (nat_lit 0) (nat_lit 0),
 AV.ptr (nat_lit 1) (nat_lit 0)]
 [AV.ptr (nat_lit 0) (nat_lit 0),
 AV.ptr (nat_lit 1) (nat_lit 0)] ∧
 StIs
 { boxes := [some [AV.int IntKind.i64 k, AV.int IntKind.i64 n, AV.str s], some [AV.int IntKind.i64 k', AV.int IntKind.i64 n', AV.str s'], some [AV.int IntKind.i64 x.k, AV.int IntKind.i64 x.n, AV.str x.s], some [AV.int IntKind.i64 n_4, AV.int IntKind.i64 n_5, AV.str s_4]], live := [] }
 { boxes := [some [AV.int IntKind.i64 k, AV.int IntKind.i64 n, AV.str s], some [AV.int IntKind.i64 k', AV.int IntKind.i64 n', AV.str s'], some [AV.int IntKind.i64 y.fst.k, AV.int IntKind.i64 y.fst.n, AV.str y.fst.s], some [AV.int IntKind.i64 y.snd.k, AV.int IntKind.i64 y.snd.n, AV.str y.snd.s]], live := [] } ∧
 (validB k n s = true ∧ validB k' n' s' = true) ∧ True))) ∧
 ((s_2 == s_3) = false →
 ((k == k' && (n == n' && (s == s' && true))) = true →
 (true = true → RetIs (AV.bool false) [] (AV.bool true, [])) ∧
 (true = false →
 ∃ (y : V3 × V3),
 ValsAre
 [AV.ptr (nat_lit 0) (nat_lit 0),
 AV.ptr (nat_lit 1) (nat_lit 0)]
 [AV.ptr (nat_lit 0) (nat_lit 0),
 AV.ptr (nat_lit 1) (nat_lit 0)] ∧
 StIs
 { boxes := [some [AV.int IntKind.i64 k, AV.int IntKind.i64 n, AV.str s], some [AV.int IntKind.i64 k', AV.int IntKind.i64 n', AV.str s'], some [AV.int IntKind.i64 x.k, AV.int IntKind.i64 x.n, AV.str x.s], some [AV.int IntKind.i64 n_4, AV.int IntKind.i64 n_5, AV.str s_4]], live := [] }
 { boxes := [some [AV.int IntKind.i64 k, AV.int IntKind.i64 n, AV.str s], some [AV.int IntKind.i64 k', AV.int IntKind.i64 n', AV.str s'], some [AV.int IntKind.i64 y.fst.k, AV.int IntKind.i64 y.fst.n, AV.str y.fst.s], some [AV.int IntKind.i64 y.snd.k, AV.int IntKind.i64 y.snd.n, AV.str y.snd.s]], live := [] } ∧
 (validB k n s = true ∧ validB k' n' s' = true) ∧ True)) ∧
 ((k == k' && (n == n' && (s == s' && true))) = false →
 (false = true → RetIs (AV.bool false) [] (AV.bool true, [])) ∧
 (false = false →
 ∃ (y : V3 × V3),
 ValsAre
 [AV.ptr (nat_lit 0) (nat_lit 0),
 AV.ptr (nat_lit 1) (nat_lit 0)]
 [AV.ptr (nat_lit 0) (nat_lit 0),
 AV.ptr (nat_lit 1) (nat_lit 0)] ∧
 StIs
 { boxes := [some [AV.int IntKind.i64 k, AV.int IntKind.i64 n, AV.str s], some [AV.int IntKind.i64 k', AV.int IntKind.i64 n', AV.str s'], some [AV.int IntKind.i64 x.k, AV.int IntKind.i64 x.n, AV.str x.s], some [AV.int IntKind.i64 n_4, AV.int IntKind.i64 n_5, AV.str s_4]], live := [] }
 { boxes := [some [AV.int IntKind.i64 k, AV.int IntKind.i64 n, AV.str s], some [AV.int IntKind.i64 k', AV.int IntKind.i64 n', AV.str s'], some [AV.int IntKind.i64 y.fst.k, AV.int IntKind.i64 y.fst.n, AV.str y.fst.s], some [AV.int IntKind.i64 y.snd.k, AV.int IntKind.i64 y.snd.n, AV.str y.snd.s]], live := [] } ∧
 (validB k n s = true ∧ validB k' n' s' = true) ∧
 True)))))) ∧
 ∀ (_x : V3 × V3),
 validB k n s = true ∧ validB k' n' s' = true →
 True →
 ∃ (es : List AV),
 CallIs
 (tbl
 [(nat_lit 10, s10), (nat_lit 11, s11a), (nat_lit 24, s24),
 (nat_lit 18, s18), (nat_lit 20, s20), (nat_lit 12, s12),
 (nat_lit 22, s22)]
 (nat_lit 18)
 [AV.sl (nat_lit 0) [] Own.nil,
 AV.agg [AV.int IntKind.i64 k, AV.int IntKind.i64 n, AV.str s]])
 (AV.sl (nat_lit 1) es (Own.tok (nat_lit 0))) [(es.length, nat_lit 5)] ∧
 (nat_lit 1 = nat_lit 1 ∨ es = []) ∧
 ∃ (l : List UInt8),
 List.mapM byteOf es = some l ∧
 ∃ (es : List AV),
 CallIs
 (tbl
 [(nat_lit 10, s10), (nat_lit 11, s11a), (nat_lit 24, s24),
 (nat_lit 18, s18), (nat_lit 20, s20), (nat_lit 12, s12),
 (nat_lit 22, s22)]
 (nat_lit 18)
 [AV.sl (nat_lit 0) [] Own.nil,
 AV.agg
 [AV.int IntKind.i64 k', AV.int IntKind.i64 n',
 AV.str s']])
 (AV.sl (nat_lit 1) es (Own.tok (nat_lit 0)))
 [(es.length, nat_lit 5)] ∧
 (nat_lit 1 = nat_lit 1 ∨ es = []) ∧
 ∃ (l_1 : List UInt8),
 List.mapM byteOf es = some l_1 ∧
 ((l == l_1) = true →
 ((k == k' && (n == n' && (s == s' && true))) = true →
 (true = true →
 ((k == k' && (n == n' && (s == s' && true))) =
 true →
 RetIs (AV.bool true) []
 (AV.bool true, [])) ∧
 ((k == k' && (n == n' && (s == s' && true))) =
 false →
 (decide
 ((↑l.length : Int) >
 (↑l_1.length : Int)) =
 true →
 RetIs (AV.bool true) []
 (AV.bool true, [])) ∧
 (decide
 ((↑l.length : Int) >
 (↑l_1.length : Int)) =
 false →
 (0 : Int) ≤ (↑l.length : Int) ∧
 (nat_lit 0 ≤ (↑l.length : Int).toNat ∧
 (↑l.length : Int).toNat ≤
 l_1.length) ∧
 ((!List.drop (nat_lit 0)
 (List.take
 (↑l.length :
 Int).toNat
 l_1) ==
 l) =
 true →
 RetIs (AV.bool true) []
 (AV.bool true, [])) ∧
 ((!List.drop (nat_lit 0)
 (List.take
 (↑l.length :
 Int).toNat
 l_1) ==
 l) =
 false →
 RetIs (AV.bool false) []
 (AV.bool true, []))))) ∧
 (true = false →
 RetIs (AV.bool false) [] (AV.bool true, []))) ∧
 ((k == k' && (n == n' && (s == s' && true))) = false →
 (false = true →
 ((k == k' && (n == n' && (s == s' && true))) =
 true →
 RetIs (AV.bool true) []
 (AV.bool true, [])) ∧
 ((k == k' && (n == n' && (s == s' && true))) =
 false →
 (decide
 ((↑l.length : Int) >
 (↑l_1.length : Int)) =
 true →
 RetIs (AV.bool true) []
 (AV.bool true, [])) ∧
 (decide
 ((↑l.length : Int) >
 (↑l_1.length : Int)) =
 false →
 (0 : Int) ≤ (↑l.length : Int) ∧
 (nat_lit 0 ≤ (↑l.length : Int).toNat ∧
 (↑l.length : Int).toNat ≤
 l_1.length) ∧
 ((!List.drop (nat_lit 0)
 (List.take
 (↑l.length :
 Int).toNat
 l_1) ==
 l) =
 true →
 RetIs (AV.bool true) []
 (AV.bool true, [])) ∧
 ((!List.drop (nat_lit 0)
 (List.take
 (↑l.length :
 Int).toNat
 l_1) ==
 l) =
 false →
 RetIs (AV.bool false) []
 (AV.bool true, []))))) ∧
 (false = false →
 RetIs (AV.bool false) [] (AV.bool true, [])))) ∧
 ((l == l_1) = false →
 ((k == k' && (n == n' && (s == s' && true))) = true →
 (false = true →
 ((k == k' && (n == n' && (s == s' && true))) =
 true →
 RetIs (AV.bool true) []
 (AV.bool true, [])) ∧
 ((k == k' && (n == n' && (s == s' && true))) =
 false →
 (decide
 ((↑l.length : Int) >
 (↑l_1.length : Int)) =
 true →
 RetIs (AV.bool true) []
 (AV.bool true, [])) ∧
 (decide
 ((↑l.length : Int) >
 (↑l_1.length : Int)) =
 false →
 (0 : Int) ≤ (↑l.length : Int) ∧
 (nat_lit 0 ≤ (↑l.length : Int).toNat ∧
 (↑l.length : Int).toNat ≤
 l_1.length) ∧
 ((!List.drop (nat_lit 0)
 (List.take
 (↑l.length :
 Int).toNat
 l_1) ==
 l) =
 true →
 RetIs (AV.bool true) []
 (AV.bool true, [])) ∧
 ((!List.drop (nat_lit 0)
 (List.take
 (↑l.length :
 Int).toNat
 l_1) ==
 l) =
 false →
 RetIs (AV.bool false) []
 (AV.bool true, []))))) ∧
 (false = false →
 RetIs (AV.bool false) [] (AV.bool true, []))) ∧
 ((k == k' && (n == n' && (s == s' && true))) = false →
 (true = true →
 ((k == k' && (n == n' && (s == s' && true))) =
 true →
 RetIs (AV.bool true) []
 (AV.bool true, [])) ∧
 ((k == k' && (n == n' && (s == s' && true))) =
 false →
 (decide
 ((↑l.length : Int) >
 (↑l_1.length : Int)) =
 true →
 RetIs (AV.bool true) []
 (AV.bool true, [])) ∧
 (decide
 ((↑l.length : Int) >
 (↑l_1.length : Int)) =
 false →
 (0 : Int) ≤ (↑l.length : Int) ∧
 (nat_lit 0 ≤ (↑l.length : Int).toNat ∧
 (↑l.length : Int).toNat ≤
 l_1.length) ∧
 ((!List.drop (nat_lit 0)
 (List.take
 (↑l.length :
 Int).toNat
 l_1) ==
 l) =
 true →
 RetIs (AV.bool true) []
 (AV.bool true, [])) ∧
 ((!List.drop (nat_lit 0)
 (List.take
 (↑l.length :
 Int).toNat
 l_1) ==
 l) =
 false →
 RetIs (AV.bool false) []
 (AV.bool true, []))))) ∧
 (true = false →
 RetIs (AV.bool false) []
 (AV.bool true, [])))))) ∧
 (b = false → RetIs (AV.bool true) [] (AV.bool true, []))) ∧
 (b = false → RetIs (AV.bool true) [] (AV.bool true, []))) ∧
      (b = false → RetIs (AV.bool false) [] (AV.bool true, []))) := by kernel_rfl
theorem w8 (m k n j : Int) (s : List UInt8) : (pureW PZ (GZ m) XW (tbl [(10, s10), (11, s11a), (24, s24), (18, s18), (16, s16)]) (itbl []) nAn [] 8 [vA k n s, .int .i64 j] tA) =
(∃ (b : Bool),
  CallIs (some (AV.bool true, [])) (AV.bool b) [] ∧
    (b = true →
        ∃ (b : Bool),
 CallIs (some (AV.bool (shortB s), [])) (AV.bool b) [] ∧
 (b = true →
 ∃ (b : Bool),
 CallIs
 (tbl [(nat_lit 10, s10), (nat_lit 11, s11a), (nat_lit 24, s24), (nat_lit 18, s18), (nat_lit 16, s16)] (nat_lit 24)
 [AV.agg [AV.int IntKind.i64 k, AV.int IntKind.i64 n, AV.str s]])
 (AV.bool b) [] ∧
 (b = true →
 ∃ (es : List AV),
 CallIs
 (tbl [(nat_lit 10, s10), (nat_lit 11, s11a), (nat_lit 24, s24), (nat_lit 18, s18), (nat_lit 16, s16)] (nat_lit 18)
 [AV.sl (nat_lit 0) [] Own.nil, AV.agg [AV.int IntKind.i64 k, AV.int IntKind.i64 n, AV.str s]])
 (AV.sl (nat_lit 1) es (Own.tok (nat_lit 0))) [(es.length, nat_lit 5)] ∧
 (decide (j < (0 : Int)) = true → RetIs (AV.bool true) [] (AV.bool true, [])) ∧
 (decide (j < (0 : Int)) = false →
 (decide (j ≥ (↑es.length : Int)) = true → RetIs (AV.bool true) [] (AV.bool true, [])) ∧
 (decide (j ≥ (↑es.length : Int)) = false →
 (0 : Int) ≤ j ∧
 (nat_lit 0 ≤ j.toNat ∧ j.toNat ≤ es.length) ∧
 (nat_lit 1 = nat_lit 1 ∨ es = []) ∧
 (nat_lit 0 = nat_lit 0 ∧ j.toNat = es.length →
 ∃ (n : Int),
 ∃ (n_1 : Int),
 ∃ (s : List UInt8),
 ∃ (n_2 : Int),
 ∃ (n_3 : Int),
 CallIs
 (tbl
 [(nat_lit 10, s10), (nat_lit 11, s11a), (nat_lit 24, s24), (nat_lit 18, s18), (nat_lit 16, s16)]
 (nat_lit 16)
 [AV.sl (nat_lit 1) (List.drop (nat_lit 0) (List.take j.toNat es)) Own.no,
 AV.int IntKind.i64 (0 : Int)])
 (AV.tup
 [AV.agg [AV.int IntKind.i64 n, AV.int IntKind.i64 n_1, AV.str s], AV.int IntKind.i64 n_2,
 AV.int IntKind.i64 n_3])
 [] ∧
 ((n == (0 : Int) && (n_1 == (0 : Int) && (s == [] && true))) = true →
 ((n_2 == (0 : Int)) = true →
 ((n_3 == (41 : Int)) = true → RetIs (AV.bool true) [] (AV.bool true, [])) ∧
 ((n_3 == (41 : Int)) = false → RetIs (AV.bool false) [] (AV.bool true, []))) ∧
 ((n_2 == (0 : Int)) = false → RetIs (AV.bool false) [] (AV.bool true, []))) ∧
 ((n == (0 : Int) && (n_1 == (0 : Int) && (s == [] && true))) = false →
 RetIs (AV.bool false) [] (AV.bool true, []))) ∧
 (¬((0 : Nat) = (0 : Nat) ∧ j.toNat = es.length) →
 ∃ (n : Int),
 ∃ (n_1 : Int),
 ∃ (s : List UInt8),
 ∃ (n_2 : Int),
 ∃ (n_3 : Int),
 CallIs
 (tbl
 [(nat_lit 10, s10), (nat_lit 11, s11a), (nat_lit 24, s24), (nat_lit 18, s18), (nat_lit 16, s16)]
 (nat_lit 16)
 [AV.sl (nat_lit 1) (List.drop (nat_lit 0) (List.take j.toNat es)) Own.no,
 AV.int IntKind.i64 (0 : Int)])
 (AV.tup
 [AV.agg [AV.int IntKind.i64 n, AV.int IntKind.i64 n_1, AV.str s], AV.int IntKind.i64 n_2,
 AV.int IntKind.i64 n_3])
 [] ∧
 ((n == (0 : Int) && (n_1 == (0 : Int) && (s == [] && true))) = true →
 ((n_2 == (0 : Int)) = true →
 ((n_3 == (41 : Int)) = true → RetIs (AV.bool true) [] (AV.bool true, [])) ∧
 ((n_3 == (41 : Int)) = false → RetIs (AV.bool false) [] (AV.bool true, []))) ∧
 ((n_2 == (0 : Int)) = false → RetIs (AV.bool false) [] (AV.bool true, []))) ∧
 ((n == (0 : Int) && (n_1 == (0 : Int) && (s == [] && true))) = false →
 RetIs (AV.bool false) [] (AV.bool true, [])))))) ∧
 (b = false → RetIs (AV.bool true) [] (AV.bool true, []))) ∧
 (b = false → RetIs (AV.bool true) [] (AV.bool true, []))) ∧
      (b = false → RetIs (AV.bool false) [] (AV.bool true, []))) := by kernel_rfl
end Go.Abs

namespace Go.Abs
open Go.Proofs L8
theorem short_str {s : List UInt8} (h : shortB s = true) : s.length ≤ 300 ∧ strOk s := by
  have : s.length ≤ 300 := by simpa [shortB] using h
  exact ⟨this, by show s.length ≤ _; omega⟩
theorem p3 (m k n t : Int) (s o : List UInt8) (fs : List AV) : PureOk PZ (GZ m) XW (tbl [(10, s10), (11, s11a), (12, s12), (13, s12), (14, s14), (15, s14)]) (itbl []) nAn [] 3 [vA k n s, tyA t fs o] tA := by
  constructor
  rw [w3]
  refine ⟨true, ⟨rfl⟩, fun _ => ⟨_, ⟨rfl⟩, fun hb => ?_, fun _ => ⟨rfl⟩⟩, fun h => (nomatch h)⟩
  obtain ⟨_, hs⟩ := short_str hb
  have t1 : tbl [(10, s10), (11, s11a), (12, s12), (13, s12), (14, s14), (15, s14)] 12 [.agg [.int .i64 k, .int .i64 n, .str s]] = some (.int .i64 (checkI k n s), []) := by rw [tbl_miss (by decide), tbl_miss (by decide), tbl_hit, s12_at hs]
  have t2 : tbl [(10, s10), (11, s11a), (12, s12), (13, s12), (14, s14), (15, s14)] 13 [.agg [.int .i64 k, .int .i64 n, .str s]] = some (.int .i64 (checkI k n s), []) := by rw [tbl_miss (by decide), tbl_miss (by decide), tbl_miss (by decide), tbl_hit, s12_at hs]
  have e3 : s14 [.agg [.int .i64 k, .int .i64 n, .str s], .agg [.int .i64 t, .sl 2 fs .no, .str o]] = some (.bool (validB k n s && (decide (k = 0) || decide (k = t))), []) := by simp only [s14]; rw [if_pos hs]
  have t3 : tbl [(10, s10), (11, s11a), (12, s12), (13, s12), (14, s14), (15, s14)] 14 [.agg [.int .i64 k, .int .i64 n, .str s], .agg [.int .i64 t, .sl 2 fs .no, .str o]] = some (.bool (validB k n s && (decide (k = 0) || decide (k = t))), []) := by rw [tbl_miss (by decide), tbl_miss (by decide), tbl_miss (by decide), tbl_miss (by decide), tbl_hit, e3]
  have t4 : tbl [(10, s10), (11, s11a), (12, s12), (13, s12), (14, s14), (15, s14)] 15 [.agg [.int .i64 k, .int .i64 n, .str s], .agg [.int .i64 t, .sl 2 fs .no, .str o]] = some (.bool (validB k n s && (decide (k = 0) || decide (k = t))), []) := by rw [tbl_miss (by decide), tbl_miss (by decide), tbl_miss (by decide), tbl_miss (by decide), tbl_miss (by decide), tbl_hit, e3]
  generalize (validB k n s && (decide (k = 0) || decide (k = t))) = b at *
  refine ⟨_, ⟨t1⟩, _, ⟨t2⟩, fun _ => ⟨_, ⟨t3⟩, fun h => ⟨_, ⟨t4⟩, fun _ => ⟨fun _ => ⟨rfl⟩, fun h => (nomatch h)⟩, fun h2 => ?_⟩, fun h => ⟨_, ⟨t4⟩, fun h2 => ?_, fun _ => ⟨fun _ => ⟨rfl⟩, fun h => (nomatch h)⟩⟩⟩, fun h => ?_⟩
  · rw [h] at h2; cases h2
  · rw [h] at h2; cases h2
  · simp at h
theorem p4 (m at_ k n : Int) (bs s : List UInt8) (hn : i64Ok n) : PureOk PZ (GZ m) XW (tbl [(10, s10), (11, s11a), (16, s16), (17, s16), (18, s18), (19, s19)]) (itbl []) nAn [] 4 [bytesA bs, .int .i64 at_, vA k n s] tA := by
  constructor
  rw [w4]
  refine ⟨true, ⟨rfl⟩, fun _ => ⟨fun _ => ⟨rfl⟩, fun hl => ⟨_, ⟨rfl⟩, fun hb => ?_, fun _ => ⟨rfl⟩⟩⟩, fun h => (nomatch h)⟩
  rw [bytesL_length] at hl
  have hl' : bs.length ≤ 600 := by simp at hl; omega
  have h1 : strOk bs := by show bs.length ≤ _; omega
  have h2 : smallOk bs := by show bs.length ≤ _; omega
  obtain ⟨_, hs⟩ := short_str hb
  have t1 : tbl [(10, s10), (11, s11a), (16, s16), (17, s16), (18, s18), (19, s19)] 16 [.sl 1 (bytesL bs) .no, .int .i64 at_] = some (rVal (readV bs at_), []) := by rw [tbl_miss (by decide), tbl_miss (by decide), tbl_hit, s16_at h1]
  have t2 : tbl [(10, s10), (11, s11a), (16, s16), (17, s16), (18, s18), (19, s19)] 17 [.sl 1 (bytesL bs) .no, .int .i64 at_] = some (rVal (readV bs at_), []) := by rw [tbl_miss (by decide), tbl_miss (by decide), tbl_miss (by decide), tbl_hit, s16_at h1]
  have t3 : tbl [(10, s10), (11, s11a), (16, s16), (17, s16), (18, s18), (19, s19)] 18 [.sl 1 (bytesL bs) .no, .agg [.int .i64 k, .int .i64 n, .str s]] = some (ownR (appL bs k n s)) := by rw [tbl_miss (by decide), tbl_miss (by decide), tbl_miss (by decide), tbl_miss (by decide), tbl_hit, s18_at (.inl rfl) h2 hs hn]
  have t4 : tbl [(10, s10), (11, s11a), (16, s16), (17, s16), (18, s18), (19, s19)] 19 [.sl 1 (bytesL bs) .no, .agg [.int .i64 k, .int .i64 n, .str s]] = some (laxR (appL bs k n s)) := by rw [tbl_miss (by decide), tbl_miss (by decide), tbl_miss (by decide), tbl_miss (by decide), tbl_miss (by decide), tbl_hit, s19_at (.inl rfl) h2 hs hn]
  refine ⟨_, _, _, _, _, ⟨t1⟩, _, _, _, _, _, ⟨t2⟩, fun _ => ⟨fun _ => ⟨fun _ => ⟨bytesL (appL bs k n s), by rw [t3]; exact own_call rfl, .inl rfl, _, mapM_byteL _, bytesL (appL bs k n s), ⟨t4⟩, .inl rfl, _, mapM_byteL _, fun _ => ⟨rfl⟩, fun h => ?_⟩, fun h => ?_⟩, fun h => ?_⟩, fun h => ?_⟩
  all_goals (simp at h)
theorem p5 (m k n : Int) (t s : List UInt8) (hn : i64Ok n) : PureOk PZ (GZ m) XW (tbl [(10, s10), (11, s11a), (20, s20), (21, s20), (22, s22), (23, s22)]) (itbl []) nAn [] 5 [.str t, vA k n s] tA := by
  constructor
  rw [w5]
  refine ⟨true, ⟨rfl⟩, fun _ => ⟨fun _ => ⟨rfl⟩, fun hl => ⟨_, ⟨rfl⟩, fun hb => ?_, fun _ => ⟨rfl⟩⟩⟩, fun h => (nomatch h)⟩
  have hl' : t.length ≤ 300 := by simp at hl; omega
  have h1 : strOk t := by show t.length ≤ _; omega
  obtain ⟨_, hs⟩ := short_str hb
  have t1 : tbl [(10, s10), (11, s11a), (20, s20), (21, s20), (22, s22), (23, s22)] 20 [.str t] = some (.tup [aV (parseV t).1, .int .i64 (parseV t).2], []) := by rw [tbl_miss (by decide), tbl_miss (by decide), tbl_hit, s20_at h1]
  have t2 : tbl [(10, s10), (11, s11a), (20, s20), (21, s20), (22, s22), (23, s22)] 21 [.str t] = some (.tup [aV (parseV t).1, .int .i64 (parseV t).2], []) := by rw [tbl_miss (by decide), tbl_miss (by decide), tbl_miss (by decide), tbl_hit, s20_at h1]
  have t3 : tbl [(10, s10), (11, s11a), (20, s20), (21, s20), (22, s22), (23, s22)] 22 [.agg [.int .i64 k, .int .i64 n, .str s]] = some (.str (fmtL k n s), []) := by rw [tbl_miss (by decide), tbl_miss (by decide), tbl_miss (by decide), tbl_miss (by decide), tbl_hit, s22_at hs hn]
  have t4 : tbl [(10, s10), (11, s11a), (20, s20), (21, s20), (22, s22), (23, s22)] 23 [.agg [.int .i64 k, .int .i64 n, .str s]] = some (.str (fmtL k n s), []) := by rw [tbl_miss (by decide), tbl_miss (by decide), tbl_miss (by decide), tbl_miss (by decide), tbl_miss (by decide), tbl_hit, s22_at hs hn]
  refine ⟨_, _, _, _, ⟨t1⟩, _, _, _, _, ⟨t2⟩, fun _ => ⟨fun _ => ⟨_, ⟨t3⟩, _, ⟨t4⟩, fun _ => ⟨rfl⟩, fun h => ?_⟩, fun h => ?_⟩, fun h => ?_⟩
  all_goals (simp at h)
theorem p8 (m k n j : Int) (s : List UInt8) (hn : i64Ok n) : PureOk PZ (GZ m) XW (tbl [(10, s10), (11, s11a), (24, s24), (18, s18), (16, s16)]) (itbl []) nAn [] 8 [vA k n s, .int .i64 j] tA := by
  constructor
  rw [w8]
  refine ⟨true, ⟨rfl⟩, fun _ => ⟨_, ⟨rfl⟩, fun hb => ?_, fun _ => ⟨rfl⟩⟩, fun h => (nomatch h)⟩
  obtain ⟨_, hs⟩ := short_str hb
  have t1 : tbl [(10, s10), (11, s11a), (24, s24), (18, s18), (16, s16)] 24 [.agg [.int .i64 k, .int .i64 n, .str s]] = some (.bool (validB k n s), []) := by rw [tbl_miss (by decide), tbl_miss (by decide), tbl_hit, s24_at hs]
  refine ⟨_, ⟨t1⟩, fun hv => ?_, fun _ => ⟨rfl⟩⟩
  have he := valid_len hv hs hn
  have t2 : tbl [(10, s10), (11, s11a), (24, s24), (18, s18), (16, s16)] 18 [.sl 0 [] .nil, .agg [.int .i64 k, .int .i64 n, .str s]] = some (ownR (encL k n s)) := by
    rw [tbl_miss (by decide), tbl_miss (by decide), tbl_miss (by decide), tbl_hit]
    have := s18_at (k := k) (bs := []) (sz := 0) (o := .nil) (.inr rfl) nil_small hs hn
    rw [app_valid hv, List.nil_append] at this; exact this
  refine ⟨bytesL (encL k n s), by rw [t2]; exact own_call rfl, fun _ => ⟨rfl⟩, fun h0 => ⟨fun _ => ⟨rfl⟩, fun h1 => ?_⟩⟩
  rw [bytesL_length] at h1 ⊢
  simp only [decide_eq_false_iff_not, ge_iff_le] at h0 h1
  have hlt : j.toNat < (encL k n s).length := by omega
  have hb' : strOk ((encL k n s).take j.toNat) := by show ((encL k n s).take j.toNat).length ≤ _; rw [List.length_take]; omega
  have t3 : tbl [(10, s10), (11, s11a), (24, s24), (18, s18), (16, s16)] 16 [.sl 1 (List.drop 0 (List.take j.toNat (bytesL (encL k n s)))) .no, .int .i64 0] = some (rVal (nullV, 0, 41), []) := by
    rw [tbl_miss (by decide), tbl_miss (by decide), tbl_miss (by decide), tbl_miss (by decide), tbl_hit, List.drop_zero]
    have e : List.take j.toNat (bytesL (encL k n s)) = bytesL ((encL k n s).take j.toNat) := by simp [bytesL]
    rw [e, s16_at hb', read_short hv hlt]
  refine ⟨by omega, by show 0 ≤ _ ∧ _; omega, .inl rfl, fun _ => ?_, fun _ => ?_⟩
  all_goals exact ⟨_, _, _, _, _, ⟨t3⟩, fun _ => ⟨fun _ => ⟨fun _ => ⟨rfl⟩, fun h => absurd h (by decide)⟩, fun h => absurd h (by decide)⟩, fun h => absurd h (by decide)⟩
theorem finV_bad {x : V3 × Int × Int} (h : (finV x).2.2 ≠ 0) : finV x = (nullV, 0, (finV x).2.2) := by
  unfold finV at h ⊢
  simp only at h ⊢
  by_cases h0 : (if x.2.2 = 0 then checkI x.1.k x.1.n x.1.s else x.2.2) ≠ 0
  · rw [if_pos h0]; rfl
  · rw [if_neg h0] at h; exact absurd rfl h
theorem readV_bad {bs : List UInt8} {at_ : Int} (h : (readV bs at_).2.2 ≠ 0) : readV bs at_ = (nullV, 0, (readV bs at_).2.2) := by
  unfold readV at h ⊢
  by_cases hb : at_ < 0 ∨ (bs.length : Int) < at_
  · rw [if_pos hb]; rfl
  · rw [if_neg hb] at h ⊢; exact finV_bad h
theorem valid_small {k n : Int} {s : List UInt8} (h : validB k n s = true) : strOk s ∧ i64Ok n := by
  have h0 : i64Ok 0 := ⟨by decide, by decide⟩
  have h1 : i64Ok 1 := ⟨by decide, by decide⟩
  rcases valid_cases h with ⟨rfl, rfl, rfl⟩ | ⟨rfl, hn, rfl⟩ | ⟨hk, hn, rfl⟩ | ⟨rfl, rfl, hs⟩ | ⟨rfl, rfl, hs⟩
  · exact ⟨str_nil, h0⟩
  · rcases hn with rfl | rfl
    · exact ⟨str_nil, h0⟩
    · exact ⟨str_nil, h1⟩
  · exact ⟨str_nil, hn.i64⟩
  · refine ⟨?_, h0⟩
    unfold textB at hs; rw [Bool.and_eq_true, decide_eq_true_eq] at hs
    show s.length ≤ _; omega
  · refine ⟨?_, h0⟩
    unfold keyB at hs; rw [Bool.and_eq_true, Bool.and_eq_true, decide_eq_true_eq, decide_eq_true_eq] at hs
    show s.length ≤ _; omega
theorem p6 (m k n : Int) (bs s ms : List UInt8) (hn : i64Ok n) : PureOk PZ (GZ m) XW (tbl [(10, s10), (11, s11a), (24, s24), (18, s18), (16, s16), (12, s12)]) (itbl []) (f6A k n s ms) [] 6 [bytesA bs, vA k n s, bytesA ms] tA := by
  constructor
  rw [w6]
  refine ⟨true, ⟨rfl⟩, fun _ => ⟨fun _ => ⟨rfl⟩, fun hl => ⟨fun _ => ⟨rfl⟩, fun hm => ⟨_, ⟨rfl⟩, fun hb => ?_, fun _ => ⟨rfl⟩⟩⟩⟩, fun h => (nomatch h)⟩
  simp only [callIs_iff, Option.some.injEq, valsAre_iff, stIs_iff, Prod.mk.injEq, AV.int.injEq, AV.tup.injEq, List.cons.injEq, and_true, true_and, beq_iff_eq, beq_eq_false_iff_ne, bne_iff_ne, bne_eq_false_iff_eq, ne_eq, decide_eq_true_eq, decide_eq_false_iff_not, Bool.not_eq_true', Bool.not_eq_false', true_imp_iff, exists_const, bytesL_length, true_or]
  have hl' : bs.length ≤ 300 := by rw [bytesL_length] at hl; simp at hl; omega
  have hm' : ms.length ≤ 300 := by rw [bytesL_length] at hm; simp at hm; omega
  obtain ⟨_, hs⟩ := short_str hb
  have hbs : smallOk bs := by show bs.length ≤ _; omega
  have hms : strOk ms := by show ms.length ≤ _; omega
  have t1 : tbl [(10, s10), (11, s11a), (24, s24), (18, s18), (16, s16), (12, s12)] 24 [.agg [.int .i64 k, .int .i64 n, .str s]] = some (.bool (validB k n s), []) := by rw [tbl_miss (by decide), tbl_miss (by decide), tbl_hit, s24_at hs]
  have t2 : tbl [(10, s10), (11, s11a), (24, s24), (18, s18), (16, s16), (12, s12)] 18 [.sl 1 (bytesL bs) .no, .agg [.int .i64 k, .int .i64 n, .str s]] = some (ownR (appL bs k n s)) := by rw [tbl_miss (by decide), tbl_miss (by decide), tbl_miss (by decide), tbl_hit, s18_at (.inl rfl) hbs hs hn]
  have t3 : ∀ (l : List UInt8) (i : Int), strOk l → tbl [(10, s10), (11, s11a), (24, s24), (18, s18), (16, s16), (12, s12)] 16 [.sl 1 (bytesL l) .no, .int .i64 i] = some (rVal (readV l i), []) := fun l i h => by rw [tbl_miss (by decide), tbl_miss (by decide), tbl_miss (by decide), tbl_miss (by decide), tbl_hit, s16_at h]
  have t4 : ∀ v : V3, strOk v.s → tbl [(10, s10), (11, s11a), (24, s24), (18, s18), (16, s16), (12, s12)] 12 [.agg [.int .i64 v.k, .int .i64 v.n, .str v.s]] = some (.int .i64 (checkI v.k v.n v.s), []) := fun v h => by rw [tbl_miss (by decide), tbl_miss (by decide), tbl_miss (by decide), tbl_miss (by decide), tbl_miss (by decide), tbl_hit, s12_at h]
  refine ⟨⟨_, t1, fun hv => ?_, fun _ => trivial⟩, fun _ => ?_⟩
  · have he := valid_len hv hs hn
    have hne : encL k n s ≠ [] := by unfold encL; simp
    have hR := read_back hv bs ms
    rw [← List.append_assoc] at hR
    rw [app_valid hv] at t2
    generalize encL k n s = e at *
    have hbe : bytesL (bs ++ e) ≠ [] := by rw [ne_eq, bytesL_eq_nil]; simp [hne]
    have e1 : List.drop 0 (List.take bs.length (bytesL (bs ++ e))) = bytesL bs := by rw [List.drop_zero, bytesL_append, List.take_left' (by rw [bytesL_length])]
    have e2 : [] ++ bytesL (bs ++ e) ++ bytesL ms = bytesL (bs ++ e ++ ms) := by rw [List.nil_append, ← bytesL_append]
    have hall : strOk (bs ++ e ++ ms) := by show (bs ++ e ++ ms).length ≤ _; simp; omega
    refine ⟨bytesL (bs ++ e), by rw [t2]; simp [ownR], fun h => ?_, fun _ => ⟨by omega, ?_, ?_⟩⟩
    · rw [bytesL_length] at h; simp at h; omega
    · rw [Int.toNat_natCast, bytesL_length]; simp
    · rw [Int.toNat_natCast, e1, e2, t3 _ _ hall, hR]
      refine ⟨fun _ => ⟨bs, mapM_byteL bs, bs, mapM_byteL bs, fun h => absurd rfl h, fun _ => ⟨?_, fun h => absurd h hbe, fun _ => ⟨?_, ?_, _, _, _, _, _, rfl, fun h => ?_, fun _ => ⟨fun h => ?_, fun _ => ⟨fun h => ?_, fun _ => trivial⟩⟩⟩⟩⟩, fun _ => ⟨bs, mapM_byteL bs, bs, mapM_byteL bs, fun h => absurd rfl h, fun _ => ⟨?_, fun h => absurd h hbe, fun _ => ⟨?_, ?_, _, _, _, _, _, rfl, fun h => ?_, fun _ => ⟨fun h => ?_, fun _ => ⟨fun h => ?_, fun _ => trivial⟩⟩⟩⟩⟩⟩
      all_goals first
        | (rw [bytesL_length]; simp; omega)
        | (simp []; omega)
        | (simp at h; done)
        | (exfalso; apply h; simp [bytesL_length])
        | simp []
  · rw [t3 _ _ hms]
    refine ⟨_, _, _, _, _, rfl, fun h => ?_, fun h => ?_⟩
    · rw [readV_bad h]
      exact ⟨fun _ => ⟨fun _ => ⟨rfl⟩, fun h => absurd rfl h⟩, fun h => by cases h⟩
    · obtain ⟨v, hv, htk, hle, hR⟩ := read_enc (bs := ms) (a := 0) h
      have hR' : readV ms 0 = (v, ((0 + (encL v.k v.n v.s).length : Nat) : Int), 0) := hR
      rw [hR']
      obtain ⟨hvs, hvn⟩ := valid_small hv
      have hc : checkI v.k v.n v.s = 0 := by simpa [validB] using hv
      have t5 : tbl [(10, s10), (11, s11a), (24, s24), (18, s18), (16, s16), (12, s12)] 18 [.sl 0 [] .nil, .agg [.int .i64 v.k, .int .i64 v.n, .str v.s]] = some (ownR (encL v.k v.n v.s)) := by
        rw [tbl_miss (by decide), tbl_miss (by decide), tbl_miss (by decide), tbl_hit]
        have := s18_at (k := v.k) (bs := []) (sz := 0) (o := .nil) (.inr rfl) nil_small hvs hvn
        rw [app_valid hv, List.nil_append] at this; exact this
      generalize encL v.k v.n v.s = e at *
      have hmx : max ((0 + e.length : Nat) : Int) 0 = (e.length : Int) := by omega
      simp only [hmx, Int.toNat_natCast, List.drop_zero]
      have e1 : List.take e.length (bytesL ms) = bytesL e := by
        rw [List.drop_zero] at htk
        have : List.take e.length (bytesL ms) = bytesL (ms.take e.length) := by simp [bytesL]
        rw [this, htk]
      rw [e1]
      refine ⟨fun _ => ⟨_, t4 v hvs, fun _ => ⟨bytesL e, by rw [t5]; simp [ownR], e, mapM_byteL e, by omega, by omega, e, mapM_byteL e, fun _ => ⟨rfl⟩, fun h => absurd rfl h⟩, fun h => absurd hc h⟩, fun h => ?_⟩
      exfalso; apply h; omega
theorem same_iff {k k' n n' : Int} {s s' : List UInt8} : (k == k' && (n == n' && (s == s' && true))) = true ↔ k = k' ∧ n = n' ∧ s = s' := by simp
theorem enc_prefix {k n k' n' : Int} {s s' : List UInt8} (h : validB k n s = true) (h' : validB k' n' s' = true) (e : (encL k' n' s').take (encL k n s).length = encL k n s) : k = k' ∧ n = n' ∧ s = s' := by
  have h1 := read_back h [] ((encL k' n' s').drop (encL k n s).length)
  have h2 := read_back h' [] []
  rw [List.nil_append] at h1 h2
  rw [List.append_nil] at h2
  have e2 : encL k n s ++ (encL k' n' s').drop (encL k n s).length = encL k' n' s' := by
    rw [← e]
    have hl : ((encL k' n' s').take (encL k n s).length).length = (encL k n s).length := by rw [e]
    rw [hl]
    exact List.take_append_drop _ _
  rw [e2, h2] at h1
  injection h1 with a b
  injection a with a b c
  exact ⟨a.symm, b.symm, c.symm⟩
theorem p7 (m k n k' n' : Int) (s s' t : List UInt8) (hn : i64Ok n) (hn' : i64Ok n') : PureOk PZ (GZ m) XW (tbl [(10, s10), (11, s11a), (24, s24), (18, s18), (20, s20), (12, s12), (22, s22)]) (itbl []) (f7A k n s k' n' s') [] 7 [vA k n s, vA k' n' s', .str t] tA := by
  have T24 : ∀ k n s, strOk s → tbl [(10, s10), (11, s11a), (24, s24), (18, s18), (20, s20), (12, s12), (22, s22)] 24 [.agg [.int .i64 k, .int .i64 n, .str s]] = some (.bool (validB k n s), []) := fun k n s hs => by rw [tbl_miss (by decide), tbl_miss (by decide), tbl_hit, s24_at hs]
  have T20 : ∀ t, strOk t → tbl [(10, s10), (11, s11a), (24, s24), (18, s18), (20, s20), (12, s12), (22, s22)] 20 [.str t] = some (.tup [aV (parseV t).1, .int .i64 (parseV t).2], []) := fun t ht => by rw [tbl_miss (by decide), tbl_miss (by decide), tbl_miss (by decide), tbl_miss (by decide), tbl_hit, s20_at ht]
  have T12 : ∀ k n s, strOk s → tbl [(10, s10), (11, s11a), (24, s24), (18, s18), (20, s20), (12, s12), (22, s22)] 12 [.agg [.int .i64 k, .int .i64 n, .str s]] = some (.int .i64 (checkI k n s), []) := fun k n s hs => by rw [tbl_miss (by decide), tbl_miss (by decide), tbl_miss (by decide), tbl_miss (by decide), tbl_miss (by decide), tbl_hit, s12_at hs]
  have T22 : ∀ k n s, strOk s → i64Ok n → tbl [(10, s10), (11, s11a), (24, s24), (18, s18), (20, s20), (12, s12), (22, s22)] 22 [.agg [.int .i64 k, .int .i64 n, .str s]] = some (.str (fmtL k n s), []) := fun k n s hs hn => by rw [tbl_miss (by decide), tbl_miss (by decide), tbl_miss (by decide), tbl_miss (by decide), tbl_miss (by decide), tbl_miss (by decide), tbl_hit, s22_at hs hn]
  have T18 : ∀ k n s, strOk s → i64Ok n → validB k n s = true → tbl [(10, s10), (11, s11a), (24, s24), (18, s18), (20, s20), (12, s12), (22, s22)] 18 [.sl 0 [] .nil, .agg [.int .i64 k, .int .i64 n, .str s]] = some (ownR (encL k n s)) := fun k n s hs hn hv => by
    rw [tbl_miss (by decide), tbl_miss (by decide), tbl_miss (by decide), tbl_hit]
    have := s18_at (k := k) (bs := []) (sz := 0) (o := .nil) (.inr rfl) nil_small hs hn
    rw [app_valid hv, List.nil_append] at this; exact this
  constructor
  rw [w7]
  simp only [callIs_iff, Option.some.injEq, valsAre_iff, stIs_iff, Prod.mk.injEq, AV.str.injEq, AV.int.injEq, AV.bool.injEq, List.cons.injEq, and_true, true_and, beq_iff_eq, beq_eq_false_iff_ne, bne_iff_ne, bne_eq_false_iff_eq, ne_eq, decide_eq_true_eq, decide_eq_false_iff_not, Bool.not_eq_true', Bool.not_eq_false', true_imp_iff, St.mk.injEq, exists_eq_left', reduceCtorEq, false_imp_iff, gt_iff_lt, true_or]
  refine ⟨fun hb => ⟨fun hb' => ⟨fun _ => ⟨rfl⟩, fun hl => ?_⟩, fun _ => ⟨rfl⟩⟩, fun _ => ⟨rfl⟩⟩
  obtain ⟨_, hs⟩ := short_str hb
  obtain ⟨_, hs'⟩ := short_str hb'
  have ht : strOk t := by show t.length ≤ _; omega
  refine ⟨_, _, _, _, T20 t ht, ⟨fun h0 => ?_, fun h0 => ⟨(parseV t).1, rfl, rfl, rfl⟩⟩, fun x => ⟨⟨_, T24 k n s hs, fun hv => ⟨_, T24 k' n' s' hs', fun hv' => ⟨x, ⟨rfl, rfl, rfl⟩, hv, hv'⟩, fun _ => ⟨rfl⟩⟩, fun _ => ⟨rfl⟩⟩, ?_⟩⟩
  · obtain ⟨p1, p2⟩ := parse_ok h0
    obtain ⟨q1, q2⟩ := valid_small p2
    exact ⟨_, T22 _ _ _ q1 q2, fun h => absurd p1 h, fun _ => ⟨_, T12 _ _ _ q1, fun h => absurd (by simpa [validB] using p2) h, fun _ => ⟨(parseV t).1, rfl, rfl, rfl⟩⟩⟩
  clear hl ht x
  rintro x ⟨hv, hv'⟩
  have hps : strOk (fmtL k n s) := by
    show (fmtL k n s).length ≤ _
    rw [fmt_valid hv]
    have := natAbs20 hn
    have h1 := nDig20 this
    have h2 := (padD_len this).2
    have h3 : (signL n).length ≤ 1 := by unfold signL; split <;> simp
    have h4 : s.length ≤ 300 := by simpa [shortB] using hb
    split
    · split <;> decide
    · split
      · rw [itoa_eq]; simp; omega
      · split
        · unfold decF pointL; simp; omega
        · split
          · simp; omega
          · split
            · simp; omega
            · decide
  have hsame := same_iff (k := k) (k' := k') (n := n) (n' := n') (s := s) (s' := s')
  rw [T22 _ _ _ hs hn, T22 _ _ _ hs' hn']
  refine ⟨_, rfl, _, rfl, ?_⟩
  rw [T20 _ hps, parse_fmt hv]
  refine ⟨_, _, _, _, rfl, ⟨fun h => ?_, fun _ => ⟨fun h => absurd rfl h, fun _ => ⟨fun he => ⟨fun _ => ⟨(x, ⟨k, n, s⟩), ⟨⟨rfl, rfl, rfl⟩, rfl, rfl, rfl⟩, hv, hv'⟩, fun h => ?_⟩, fun he => ⟨fun h => ?_, fun _ => ⟨(x, ⟨k, n, s⟩), ⟨⟨rfl, rfl, rfl⟩, rfl, rfl, rfl⟩, hv, hv'⟩⟩⟩⟩⟩, ?_⟩
  · simp at h
  · exact absurd (hsame.2 (fmt_inj hv hv' he)) (by rw [h]; simp)
  · obtain ⟨rfl, rfl, rfl⟩ := hsame.1 h
    exact absurd rfl he
  rintro y ⟨_, _⟩
  rw [T18 _ _ _ hs hn hv, T18 _ _ _ hs' hn' hv']
  refine ⟨bytesL (encL k n s), by simp [ownR], _, mapM_byteL _, bytesL (encL k' n' s'), by simp [ownR], _, mapM_byteL _, ?_⟩
  have hpre := enc_prefix hv hv'
  have hsm : (k == k' && (n == n' && (s == s' && true))) = true → encL k n s = encL k' n' s' := fun h => by
    obtain ⟨rfl, rfl, rfl⟩ := hsame.1 h; rfl
  have hme : encL k n s = encL k' n' s' → (k == k' && (n == n' && (s == s' && true))) = true := fun h => hsame.2 (hpre (by rw [h, List.take_length]))
  have hno : (k == k' && (n == n' && (s == s' && true))) = false → ¬ List.take (encL k n s).length (encL k' n' s') = encL k n s := fun h h2 => by
    have := hsame.2 (hpre h2)
    rw [h] at this; cases this
  clear hsame hpre hps T24 T20 T12 T22 T18
  generalize (k == k' && (n == n' && (s == s' && true))) = q at *
  generalize encL k n s = l at *
  generalize encL k' n' s' = l' at *
  cases q with
  | true =>
    have he := hsm rfl
    exact ⟨fun _ => ⟨fun _ => ⟨fun _ => ⟨rfl⟩, fun h => (nomatch h)⟩, fun h => (nomatch h)⟩, fun h => absurd he h⟩
  | false =>
    have hne : ¬ l = l' := fun h => by have := hme h; cases this
    have hno := hno rfl
    refine ⟨fun h => absurd h hne, fun _ => ⟨fun h => (nomatch h), fun _ => ⟨fun h => (nomatch h), fun _ => ⟨fun _ => ⟨rfl⟩, fun hl => ⟨by omega, by omega, fun _ => ⟨rfl⟩, fun h => ?_⟩⟩⟩⟩⟩
    rw [Int.toNat_natCast, List.drop_zero] at h
    exact absurd h hno
def s3 : Spec := fun args => match args with
  | [.agg [.int .i64 _, .int .i64 _, .str _], .agg [.int .i64 _, .sl 2 _ .no, .str _]] => some tA
  | _ => none
def s4 : Spec := fun args => match args with
  | [.sl sz es _, .int .i64 _, .agg [.int .i64 _, .int .i64 n, .str _]] => if (sz = 1 ∨ es = []) ∧ i64Ok n then onBytes es fun _ => some tA else none
  | _ => none
def s5 : Spec := fun args => match args with
  | [.str _, .agg [.int .i64 _, .int .i64 n, .str _]] => if i64Ok n then some tA else none
  | _ => none
def s6 : Spec := fun args => match args with
  | [.sl sz es _, .agg [.int .i64 _, .int .i64 n, .str _], .sl sz' es' _] => if (sz = 1 ∨ es = []) ∧ (sz' = 1 ∨ es' = []) ∧ i64Ok n then onBytes es fun _ => onBytes es' fun _ => some tA else none
  | _ => none
def s7 : Spec := fun args => match args with
  | [.agg [.int .i64 _, .int .i64 n, .str _], .agg [.int .i64 _, .int .i64 n', .str _], .str _] => if i64Ok n ∧ i64Ok n' then some tA else none
  | _ => none
def s8 : Spec := fun args => match args with
  | [.agg [.int .i64 _, .int .i64 n, .str _], .int .i64 _] => if i64Ok n then some tA else none
  | _ => none
theorem o3 (m : Int) : SpecOk PZ (GZ m) 3 s3 := spec_of (X := XW) (m := []) mixedZ (tbl_cons (o10 m) (tbl_cons (o11a m) (tbl_cons (o12 m) (tbl_cons (o13 m) (tbl_cons (o14 m) (tbl_cons (o15 m) tbl_nil)))))) itbl_nil fun args r h => by
  unfold s3 at h
  split at h
  · injection h with h; subst h; exact ⟨nAn, p3 m _ _ _ _ _ _⟩
  · cases h
theorem o4 (m : Int) : SpecOk PZ (GZ m) 4 s4 := spec_ofW (X := XW) (m := []) [1] mixedZ (tbl_cons (o10 m) (tbl_cons (o11a m) (tbl_cons (o16 m) (tbl_cons (o17 m) (tbl_cons (o18 m) (tbl_cons (o19 m) tbl_nil)))))) itbl_nil fun args r h => by
  unfold s4 onBytes at h
  split at h
  · split at h
    · rename_i hc
      split at h
      · rename_i bs hb
        injection h with h; subst h
        simp only [wkL, wk1 hc.1 hb]
        exact ⟨nAn, p4 m _ _ _ _ _ hc.2⟩
      · cases h
    · cases h
  · cases h
theorem o5 (m : Int) : SpecOk PZ (GZ m) 5 s5 := spec_of (X := XW) (m := []) mixedZ (tbl_cons (o10 m) (tbl_cons (o11a m) (tbl_cons (o20 m) (tbl_cons (o21 m) (tbl_cons (o22 m) (tbl_cons (o23 m) tbl_nil)))))) itbl_nil fun args r h => by
  unfold s5 at h
  split at h
  · split at h
    · rename_i hn
      injection h with h; subst h; exact ⟨nAn, p5 m _ _ _ _ hn⟩
    · cases h
  · cases h
theorem o6 (m : Int) : SpecOk PZ (GZ m) 6 s6 := spec_ofW (X := XW) (m := []) [1, 0, 1] mixedZ (tbl_cons (o10 m) (tbl_cons (o11a m) (tbl_cons (o24 m) (tbl_cons (o18 m) (tbl_cons (o16 m) (tbl_cons (o12 m) tbl_nil)))))) itbl_nil fun args r h => by
  unfold s6 onBytes at h
  split at h
  · split at h
    · rename_i hc
      split at h
      · rename_i bs hb
        dsimp only at h
        split at h
        · rename_i ms hm
          injection h with h; subst h
          simp only [wkL, wk1 hc.1 hb, wk1 hc.2.1 hm]
          exact ⟨f6A _ _ _ ms, p6 m _ _ _ _ _ hc.2.2⟩
        · cases h
      · cases h
    · cases h
  · cases h
theorem o7 (m : Int) : SpecOk PZ (GZ m) 7 s7 := spec_of (X := XW) (m := []) mixedZ (tbl_cons (o10 m) (tbl_cons (o11a m) (tbl_cons (o24 m) (tbl_cons (o18 m) (tbl_cons (o20 m) (tbl_cons (o12 m) (tbl_cons (o22 m) tbl_nil))))))) itbl_nil fun args r h => by
  unfold s7 at h
  split at h
  · split at h
    · rename_i hn
      injection h with h; subst h; exact ⟨f7A _ _ _ _ _ _, p7 m _ _ _ _ _ _ _ hn.1 hn.2⟩
    · cases h
  · cases h
theorem o8 (m : Int) : SpecOk PZ (GZ m) 8 s8 := spec_of (X := XW) (m := []) mixedZ (tbl_cons (o10 m) (tbl_cons (o11a m) (tbl_cons (o24 m) (tbl_cons (o18 m) (tbl_cons (o16 m) tbl_nil))))) itbl_nil fun args r h => by
  unfold s8 at h
  split at h
  · split at h
    · rename_i hn
      injection h with h; subst h; exact ⟨nAn, p8 m _ _ _ _ hn⟩
    · cases h
  · cases h
end Go.Abs

namespace Go.Abs
open Go.Proofs L8 Go.Wire
theorem spec_lax {P : Program} {G : Glob} {f : FuncId} {s s' : Spec} (h : SpecOk P G f s) (hs : ∀ args r, s' args = some r → ∃ l, r = laxR l ∧ s args = some (ownR l)) : SpecOk P G f s' := by
  intro g args r lv hr
  simp only at hr
  split at hr
  · rename_i e
    subst e
    obtain ⟨l, hl, ha⟩ := hs _ _ hr
    have h1 : r = bytesA l := congrArg Prod.fst hl
    have h2 : lv = [] := congrArg Prod.snd hl
    subst h1; subst h2
    have hc := h g args (ownR l).1 (ownR l).2 (by simp only [if_true]; exact ha)
    intro E w vs hI hG hn hv hcl
    refine (hc E w vs hI hG hn hv hcl).mono fun e w' ⟨v, he, I', k1, k2, hb, hr⟩ => ⟨v, he, I', k1, k2, hb, .inl ⟨rfl, fun B K => ?_⟩⟩
    rcases hr with ⟨h, _⟩ | ⟨n, e', hv', sz, xs, hlv, _, _, _, hrep⟩
    · cases h
    · have h3 := hrep B (fun _ _ _ => True) 0 trivial
      have h4 : Rep ⟨I', B, fun _ _ _ => True⟩ w' (.sl 1 (bytesL l) .no) v := by
        have h5 := rep_wk (z := 1) h3
        cases l with
        | nil => exact h5
        | cons c t => exact h5
      exact h4.rebase rfl B K
  · cases hr
def s18L : Spec := sApp laxR
def s25L : Spec := fun args => match args with
  | [.sl sz es _, .sl sz' es' _] => if (sz = 1 ∨ es = []) ∧ (sz' = 1 ∨ es' = []) then onBytes es fun bs => onBytes es' fun cs => if strOk bs ∧ strOk cs then some (laxR (bs ++ frameL cs)) else none else none
  | _ => none
theorem o18L (m : Int) : SpecOk PZ (GZ m) 18 s18L := spec_lax (o18 m) fun args r h => by
  unfold s18L sApp onBytes at h
  unfold s18 sApp onBytes
  split at h
  · simp only
    split at h
    · rename_i hz
      rw [if_pos hz]
      split at h
      · dsimp only at h
        split at h
        · rename_i hp
          rw [if_pos hp]
          injection h with h
          exact ⟨_, h.symm, rfl⟩
        · cases h
      · cases h
    · cases h
  · cases h
theorem o25L (m : Int) : SpecOk PZ (GZ m) 25 s25L := spec_lax (o25 m) fun args r h => by
  unfold s25L onBytes at h
  unfold s25 onBytes
  split at h
  · simp only
    split at h
    · rename_i hz
      rw [if_pos hz]
      split at h
      · dsimp only at h
        split at h
        · split at h
          · rename_i hp
            rw [if_pos hp]
            injection h with h
            exact ⟨_, h.symm, rfl⟩
          · cases h
        · cases h
      · cases h
    · cases h
  · cases h
def XW9 : Shapes := fun f => match f with
  | 18 | 25 => some shLax
  | 26 => some (.tup [.one (.sl 1 .no), .one (.int .i64), .one (.int .i64)], none)
  | f => XW f
def encsL (l : List V3) : List UInt8 := l.flatMap fun x => encL x.k x.n x.s
def goodV (x : V3) : Prop := x.s.length ≤ 300 ∧ validB x.k x.n x.s = true
def a9 (l : List V3) (bs : List UInt8) : Anns := ⟨fun q => match q with
  | 7 => some { α := Nat, slots := [0, 1, 5, 6], nb := 0, vals := fun i => [.sl 3 (l.map aV) .no, bytesA bs, .sl 1 (bytesL (encsL (l.take i))) .no, .int .i64 i], sS := fun _i => ⟨[], []⟩, I := fun i => i ≤ l.length ∧ l.length ≤ 20 ∧ bs.length ≤ 100 ∧ ∀ x ∈ l.take i, goodV x, μ := fun i => l.length - i, peel := 1 }
  | 1000013 => some { α := Unit, slots := [0, 1, 7], nb := 0, vals := fun _ => [.sl 3 (l.map aV) .no, bytesA bs, bytesA (bs ++ frameL (encsL l))], sS := fun _ => ⟨[], []⟩, I := fun _ => l.length ≤ 20 ∧ bs.length ≤ 100 ∧ ∀ x ∈ l, goodV x, μ := fun _ => 0 }
  | 18 => some { α := Nat, slots := [0, 8, 11, 12], nb := 0, vals := fun i => [.sl 3 (l.map aV) .no, bytesA (encsL l), .int .i64 (encsL (l.take i)).length, .int .i64 i], sS := fun _ => ⟨[], []⟩, I := fun i => i ≤ l.length ∧ l.length ≤ 20 ∧ ∀ x ∈ l, goodV x, μ := fun i => l.length - i }
  | _ => none, nA⟩
end Go.Abs
