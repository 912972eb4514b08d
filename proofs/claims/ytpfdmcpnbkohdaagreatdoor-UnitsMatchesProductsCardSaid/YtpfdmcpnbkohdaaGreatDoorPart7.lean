/- Own texts, part 7. -/
import Derived.Test.YtpfdmcpnbkohdaaGreatDoorPart6

namespace Go.Abs
open Go.Proofs Go.RowKit
theorem w53 (G : Glob) (h l : Int) : (pureW PU G XD (tbl [(70, s70), (51, s51), (71, s71), (72, s72), (73, s73)]) (itbl []) (a53 h l) [] 53 [.agg [.int .i64 h, .int .u64 l], .int .i64 1] (.tup [.int .i64 (if small (wv h l) then wv h l else 0), .bool (small (wv h l))], [])) =
((false = true →
    RetIs (AV.tup [AV.int IntKind.i64 (0 : Int), AV.bool false]) []
      (AV.tup [AV.int IntKind.i64 (if small (wv h l) = true then wv h l else (0 : Int)), AV.bool (small (wv h l))], [])) ∧
  (false = false →
    (∃ (es : List AV),
        CallIs
 (tbl [(nat_lit 70, s70), (nat_lit 51, s51), (nat_lit 71, s71), (nat_lit 72, s72), (nat_lit 73, s73)] (nat_lit 70)
 [AV.agg [AV.int IntKind.i64 h, AV.int IntKind.u64 l]])
 (AV.sl (nat_lit 1) es (Own.tok (nat_lit 0))) [(es.length, nat_lit 3)] ∧
 ∃ (_y : Unit),
 ValsAre
 [AV.agg [AV.int IntKind.i64 h, AV.int IntKind.u64 l], AV.int IntKind.i64 (1 : Int), AV.ptr (nat_lit 0) (nat_lit 0), AV.sl (nat_lit 1) es Own.no]
 [AV.agg [AV.int IntKind.i64 h, AV.int IntKind.u64 l], AV.int IntKind.i64 (1 : Int), AV.ptr (nat_lit 0) (nat_lit 0),
 AV.sl (nat_lit 1)
 [AV.int IntKind.i64 (absI (wv h l) / (1 : Int) % (65536 : Int)), AV.int IntKind.i64 (absI (wv h l) / (65536 : Int) % (65536 : Int)),
 AV.int IntKind.i64 (absI (wv h l) / (4294967296 : Int) % (65536 : Int)),
 AV.int IntKind.i64 (absI (wv h l) / (281474976710656 : Int) % (65536 : Int)),
 AV.int IntKind.i64 (absI (wv h l) / (18446744073709551616 : Int) % (65536 : Int)),
 AV.int IntKind.i64 (absI (wv h l) / (1208925819614629174706176 : Int) % (65536 : Int)),
 AV.int IntKind.i64 (absI (wv h l) / (79228162514264337593543950336 : Int) % (65536 : Int)),
 AV.int IntKind.i64 (absI (wv h l) / (5192296858534827628530496329220096 : Int) % (65536 : Int))]
 Own.no] ∧
 StIs { boxes := [some [AV.int IntKind.i64 h, AV.int IntKind.u64 l]], live := [] }
 { boxes := [some [AV.int IntKind.i64 h, AV.int IntKind.u64 l]], live := [] } ∧
 True ∧ True) ∧
      ∀ (_x : Unit),
        True →
 True →
 (∃ (n : Int),
 ∃ (n_1 : Int),
 CallIs (some (AV.agg [AV.int IntKind.i64 (0 : Int), AV.int IntKind.u64 (1 : Int)], []))
 (AV.agg [AV.int IntKind.i64 n, AV.int IntKind.u64 n_1]) [] ∧
 ∃ (es : List AV),
 CallIs
 (tbl [(nat_lit 70, s70), (nat_lit 51, s51), (nat_lit 71, s71), (nat_lit 72, s72), (nat_lit 73, s73)] (nat_lit 70)
 [AV.agg [AV.int IntKind.i64 n, AV.int IntKind.u64 n_1]])
 (AV.sl (nat_lit 1) es (Own.tok (nat_lit 0))) [(es.length, nat_lit 3)] ∧
 ∃ (_y : Unit),
 ValsAre
 [AV.agg [AV.int IntKind.i64 h, AV.int IntKind.u64 l], AV.int IntKind.i64 (1 : Int), AV.ptr (nat_lit 0) (nat_lit 0),
 AV.sl (nat_lit 1)
 [AV.int IntKind.i64 (absI (wv h l) / (1 : Int) % (65536 : Int)),
 AV.int IntKind.i64 (absI (wv h l) / (65536 : Int) % (65536 : Int)),
 AV.int IntKind.i64 (absI (wv h l) / (4294967296 : Int) % (65536 : Int)),
 AV.int IntKind.i64 (absI (wv h l) / (281474976710656 : Int) % (65536 : Int)),
 AV.int IntKind.i64 (absI (wv h l) / (18446744073709551616 : Int) % (65536 : Int)),
 AV.int IntKind.i64 (absI (wv h l) / (1208925819614629174706176 : Int) % (65536 : Int)),
 AV.int IntKind.i64 (absI (wv h l) / (79228162514264337593543950336 : Int) % (65536 : Int)),
 AV.int IntKind.i64 (absI (wv h l) / (5192296858534827628530496329220096 : Int) % (65536 : Int))]
 Own.no,
 AV.sl (nat_lit 1) es Own.no]
 [AV.agg [AV.int IntKind.i64 h, AV.int IntKind.u64 l], AV.int IntKind.i64 (1 : Int), AV.ptr (nat_lit 0) (nat_lit 0),
 AV.sl (nat_lit 1)
 [AV.int IntKind.i64 (absI (wv h l) / (1 : Int) % (65536 : Int)),
 AV.int IntKind.i64 (absI (wv h l) / (65536 : Int) % (65536 : Int)),
 AV.int IntKind.i64 (absI (wv h l) / (4294967296 : Int) % (65536 : Int)),
 AV.int IntKind.i64 (absI (wv h l) / (281474976710656 : Int) % (65536 : Int)),
 AV.int IntKind.i64 (absI (wv h l) / (18446744073709551616 : Int) % (65536 : Int)),
 AV.int IntKind.i64 (absI (wv h l) / (1208925819614629174706176 : Int) % (65536 : Int)),
 AV.int IntKind.i64 (absI (wv h l) / (79228162514264337593543950336 : Int) % (65536 : Int)),
 AV.int IntKind.i64 (absI (wv h l) / (5192296858534827628530496329220096 : Int) % (65536 : Int))]
 Own.no,
 AV.sl (nat_lit 1)
 [AV.int IntKind.i64 (1 : Int), AV.int IntKind.i64 (0 : Int), AV.int IntKind.i64 (0 : Int), AV.int IntKind.i64 (0 : Int),
 AV.int IntKind.i64 (0 : Int), AV.int IntKind.i64 (0 : Int), AV.int IntKind.i64 (0 : Int), AV.int IntKind.i64 (0 : Int)]
 Own.no] ∧
 StIs { boxes := [some [AV.int IntKind.i64 h, AV.int IntKind.u64 l]], live := [] }
 { boxes := [some [AV.int IntKind.i64 h, AV.int IntKind.u64 l]], live := [] } ∧
 True ∧ True) ∧
 ∀ (_x : Unit),
 True →
 True →
 (((0 : Int) ≤ (8 : Int) ∧ (8 : Int) ≤ (8 : Int) ∧ (72 : Int) ≤ (70368744177664 : Int)) ∧
 ∃ (_y : Unit),
 ValsAre
 [AV.agg [AV.int IntKind.i64 h, AV.int IntKind.u64 l], AV.int IntKind.i64 (1 : Int), AV.ptr (nat_lit 0) (nat_lit 0),
 AV.sl (nat_lit 1)
 [AV.int IntKind.i64 (absI (wv h l) / (1 : Int) % (65536 : Int)),
 AV.int IntKind.i64 (absI (wv h l) / (65536 : Int) % (65536 : Int)),
 AV.int IntKind.i64 (absI (wv h l) / (4294967296 : Int) % (65536 : Int)),
 AV.int IntKind.i64 (absI (wv h l) / (281474976710656 : Int) % (65536 : Int)),
 AV.int IntKind.i64 (absI (wv h l) / (18446744073709551616 : Int) % (65536 : Int)),
 AV.int IntKind.i64 (absI (wv h l) / (1208925819614629174706176 : Int) % (65536 : Int)),
 AV.int IntKind.i64 (absI (wv h l) / (79228162514264337593543950336 : Int) % (65536 : Int)),
 AV.int IntKind.i64 (absI (wv h l) / (5192296858534827628530496329220096 : Int) % (65536 : Int))]
 Own.no,
 AV.sl (nat_lit 1)
 [AV.int IntKind.i64 (1 : Int), AV.int IntKind.i64 (0 : Int), AV.int IntKind.i64 (0 : Int), AV.int IntKind.i64 (0 : Int),
 AV.int IntKind.i64 (0 : Int), AV.int IntKind.i64 (0 : Int), AV.int IntKind.i64 (0 : Int), AV.int IntKind.i64 (0 : Int)]
 Own.no,
 AV.sl (nat_lit 1)
 [AV.int IntKind.i64 (0 : Int), AV.int IntKind.i64 (0 : Int), AV.int IntKind.i64 (0 : Int), AV.int IntKind.i64 (0 : Int),
 AV.int IntKind.i64 (0 : Int), AV.int IntKind.i64 (0 : Int), AV.int IntKind.i64 (0 : Int), AV.int IntKind.i64 (0 : Int)]
 Own.no]
 [AV.agg [AV.int IntKind.i64 h, AV.int IntKind.u64 l], AV.int IntKind.i64 (1 : Int), AV.ptr (nat_lit 0) (nat_lit 0),
 AV.sl (nat_lit 1)
 [AV.int IntKind.i64 (absI (wv h l) / (1 : Int) % (65536 : Int)),
 AV.int IntKind.i64 (absI (wv h l) / (65536 : Int) % (65536 : Int)),
 AV.int IntKind.i64 (absI (wv h l) / (4294967296 : Int) % (65536 : Int)),
 AV.int IntKind.i64 (absI (wv h l) / (281474976710656 : Int) % (65536 : Int)),
 AV.int IntKind.i64 (absI (wv h l) / (18446744073709551616 : Int) % (65536 : Int)),
 AV.int IntKind.i64 (absI (wv h l) / (1208925819614629174706176 : Int) % (65536 : Int)),
 AV.int IntKind.i64 (absI (wv h l) / (79228162514264337593543950336 : Int) % (65536 : Int)),
 AV.int IntKind.i64 (absI (wv h l) / (5192296858534827628530496329220096 : Int) % (65536 : Int))]
 Own.no,
 AV.sl (nat_lit 1)
 [AV.int IntKind.i64 (1 : Int), AV.int IntKind.i64 (0 : Int), AV.int IntKind.i64 (0 : Int), AV.int IntKind.i64 (0 : Int),
 AV.int IntKind.i64 (0 : Int), AV.int IntKind.i64 (0 : Int), AV.int IntKind.i64 (0 : Int), AV.int IntKind.i64 (0 : Int)]
 Own.no,
 AV.sl (nat_lit 1)
 [AV.int IntKind.i64 (0 : Int), AV.int IntKind.i64 (0 : Int), AV.int IntKind.i64 (0 : Int), AV.int IntKind.i64 (0 : Int),
 AV.int IntKind.i64 (0 : Int), AV.int IntKind.i64 (0 : Int), AV.int IntKind.i64 (0 : Int), AV.int IntKind.i64 (0 : Int)]
 Own.no] ∧
 StIs { boxes := [some [AV.int IntKind.i64 h, AV.int IntKind.u64 l]], live := [] }
 { boxes := [some [AV.int IntKind.i64 h, AV.int IntKind.u64 l]], live := [] } ∧
 True ∧ True) ∧
 ∀ (_x : Unit),
 True →
 True →
 ((∃ (y : Nat),
 ValsAre
 [AV.agg [AV.int IntKind.i64 h, AV.int IntKind.u64 l], AV.int IntKind.i64 (1 : Int), AV.ptr (nat_lit 0) (nat_lit 0),
 AV.sl (nat_lit 1)
 [AV.int IntKind.i64 (absI (wv h l) / (1 : Int) % (65536 : Int)),
 AV.int IntKind.i64 (absI (wv h l) / (65536 : Int) % (65536 : Int)),
 AV.int IntKind.i64 (absI (wv h l) / (4294967296 : Int) % (65536 : Int)),
 AV.int IntKind.i64 (absI (wv h l) / (281474976710656 : Int) % (65536 : Int)),
 AV.int IntKind.i64 (absI (wv h l) / (18446744073709551616 : Int) % (65536 : Int)),
 AV.int IntKind.i64 (absI (wv h l) / (1208925819614629174706176 : Int) % (65536 : Int)),
 AV.int IntKind.i64 (absI (wv h l) / (79228162514264337593543950336 : Int) % (65536 : Int)),
 AV.int IntKind.i64 (absI (wv h l) / (5192296858534827628530496329220096 : Int) % (65536 : Int))]
 Own.no,
 AV.sl (nat_lit 1)
 [AV.int IntKind.i64 (1 : Int), AV.int IntKind.i64 (0 : Int), AV.int IntKind.i64 (0 : Int),
 AV.int IntKind.i64 (0 : Int), AV.int IntKind.i64 (0 : Int), AV.int IntKind.i64 (0 : Int),
 AV.int IntKind.i64 (0 : Int), AV.int IntKind.i64 (0 : Int)]
 Own.no,
 AV.sl (nat_lit 1)
 [AV.int IntKind.i64 (0 : Int), AV.int IntKind.i64 (0 : Int), AV.int IntKind.i64 (0 : Int),
 AV.int IntKind.i64 (0 : Int), AV.int IntKind.i64 (0 : Int), AV.int IntKind.i64 (0 : Int),
 AV.int IntKind.i64 (0 : Int), AV.int IntKind.i64 (0 : Int)]
 Own.no,
 AV.int IntKind.i64 (0 : Int), AV.int IntKind.i64 (127 : Int)]
 [AV.agg [AV.int IntKind.i64 h, AV.int IntKind.u64 l], AV.int IntKind.i64 (1 : Int), AV.ptr (nat_lit 0) (nat_lit 0),
 AV.sl (nat_lit 1)
 [AV.int IntKind.i64 (absI (wv h l) / (1 : Int) % (65536 : Int)),
 AV.int IntKind.i64 (absI (wv h l) / (65536 : Int) % (65536 : Int)),
 AV.int IntKind.i64 (absI (wv h l) / (4294967296 : Int) % (65536 : Int)),
 AV.int IntKind.i64 (absI (wv h l) / (281474976710656 : Int) % (65536 : Int)),
 AV.int IntKind.i64 (absI (wv h l) / (18446744073709551616 : Int) % (65536 : Int)),
 AV.int IntKind.i64 (absI (wv h l) / (1208925819614629174706176 : Int) % (65536 : Int)),
 AV.int IntKind.i64 (absI (wv h l) / (79228162514264337593543950336 : Int) % (65536 : Int)),
 AV.int IntKind.i64 (absI (wv h l) / (5192296858534827628530496329220096 : Int) % (65536 : Int))]
 Own.no,
 AV.sl (nat_lit 1)
 [AV.int IntKind.i64 (1 : Int), AV.int IntKind.i64 (0 : Int), AV.int IntKind.i64 (0 : Int),
 AV.int IntKind.i64 (0 : Int), AV.int IntKind.i64 (0 : Int), AV.int IntKind.i64 (0 : Int),
 AV.int IntKind.i64 (0 : Int), AV.int IntKind.i64 (0 : Int)]
 Own.no,
 AV.sl (nat_lit 1)
 [AV.int IntKind.i64 (0 : Int), AV.int IntKind.i64 (0 : Int), AV.int IntKind.i64 (0 : Int),
 AV.int IntKind.i64 (0 : Int), AV.int IntKind.i64 (0 : Int), AV.int IntKind.i64 (0 : Int),
 AV.int IntKind.i64 (0 : Int), AV.int IntKind.i64 (0 : Int)]
 Own.no,
 AV.int IntKind.i64 (absI (wv h l) / (2 : Int) ^ (nat_lit 128 - y)), AV.int IntKind.i64 ((127 : Int) - (↑y : Int))] ∧
 StIs { boxes := [some [AV.int IntKind.i64 h, AV.int IntKind.u64 l]], live := [] }
 { boxes := [some [AV.int IntKind.i64 h, AV.int IntKind.u64 l]], live := [] } ∧
 (y ≤ (128 : Nat) ∧ absI (wv h l) / (2 : Int) ^ ((128 : Nat) - y) ≤ (1152921504606846976 : Int)) ∧ True) ∧
 ∀ (x : Nat),
 x ≤ (128 : Nat) ∧ absI (wv h l) / (2 : Int) ^ ((128 : Nat) - x) ≤ (1152921504606846976 : Int) →
 (decide ((127 : Int) - (↑x : Int) ≥ (0 : Int)) = true →
 (16 : Int) ≠ (0 : Int) ∧
 ((0 : Int) ≤ IntKind.i64.wrap (((127 : Int) - (↑x : Int)).tdiv (16 : Int)) ∧
 IntKind.i64.wrap (((127 : Int) - (↑x : Int)).tdiv (16 : Int)) < (↑(8 : Nat) : Int)) ∧
 ∃ (n : Int),
 takeAt PU (nat_lit 3)
 [AV.int IntKind.i64 (absI (wv h l) / (1 : Int) % (65536 : Int)),
 AV.int IntKind.i64 (absI (wv h l) / (65536 : Int) % (65536 : Int)),
 AV.int IntKind.i64 (absI (wv h l) / (4294967296 : Int) % (65536 : Int)),
 AV.int IntKind.i64 (absI (wv h l) / (281474976710656 : Int) % (65536 : Int)),
 AV.int IntKind.i64 (absI (wv h l) / (18446744073709551616 : Int) % (65536 : Int)),
 AV.int IntKind.i64 (absI (wv h l) / (1208925819614629174706176 : Int) % (65536 : Int)),
 AV.int IntKind.i64 (absI (wv h l) / (79228162514264337593543950336 : Int) % (65536 : Int)),
 AV.int IntKind.i64 (absI (wv h l) / (5192296858534827628530496329220096 : Int) % (65536 : Int))]
 (IntKind.i64.wrap (((127 : Int) - (↑x : Int)).tdiv (16 : Int))).toNat (nat_lit 0) =
 some (AV.int IntKind.i64 n) ∧
 (16 : Int) ≠ (0 : Int) ∧
 (0 : Int) ≤ ((127 : Int) - (↑x : Int)).tmod (16 : Int) ∧
 (2 : Int) ≠ (0 : Int) ∧
 ∃ (es : List AV),
 CallIs
 (tbl [(nat_lit 70, s70), (nat_lit 51, s51), (nat_lit 71, s71), (nat_lit 72, s72), (nat_lit 73, s73)]
 (nat_lit 71)
 [AV.sl (nat_lit 1)
 [AV.int IntKind.i64 (0 : Int), AV.int IntKind.i64 (0 : Int), AV.int IntKind.i64 (0 : Int),
 AV.int IntKind.i64 (0 : Int), AV.int IntKind.i64 (0 : Int), AV.int IntKind.i64 (0 : Int),
 AV.int IntKind.i64 (0 : Int), AV.int IntKind.i64 (0 : Int)]
 Own.no,
 AV.int IntKind.i64
 ((n.fdiv
 ((2 : Int) ^ min (((127 : Int) - (↑x : Int)).tmod (16 : Int)).toNat (nat_lit 64))).tmod
 (2 : Int))])
 (AV.sl (nat_lit 1) es (Own.tok (nat_lit 0))) [(es.length, nat_lit 3)] ∧
 ∃ (b : Bool),
 CallIs
 (tbl
 [(nat_lit 70, s70), (nat_lit 51, s51), (nat_lit 71, s71), (nat_lit 72, s72),
 (nat_lit 73, s73)]
 (nat_lit 72)
 [AV.sl (nat_lit 1) es Own.no,
 AV.sl (nat_lit 1)
 [AV.int IntKind.i64 (1 : Int), AV.int IntKind.i64 (0 : Int), AV.int IntKind.i64 (0 : Int),
 AV.int IntKind.i64 (0 : Int), AV.int IntKind.i64 (0 : Int),
 AV.int IntKind.i64 (0 : Int), AV.int IntKind.i64 (0 : Int),
 AV.int IntKind.i64 (0 : Int)]
 Own.no])
 (AV.bool b) [] ∧
 (b = true →
 (decide
 (IntKind.i64.wrap ((2 : Int) * (absI (wv h l) / (2 : Int) ^ (nat_lit 128 - x))) >
 (1152921504606846976 : Int)) =
 true →
 RetIs (AV.tup [AV.int IntKind.i64 (0 : Int), AV.bool false]) []
 (AV.tup
 [AV.int IntKind.i64 (if small (wv h l) = true then wv h l else (0 : Int)),
 AV.bool (small (wv h l))],
 [])) ∧
 (decide
 (IntKind.i64.wrap ((2 : Int) * (absI (wv h l) / (2 : Int) ^ (nat_lit 128 - x))) >
 (1152921504606846976 : Int)) =
 false →
 ∃ (y : Nat),
 ValsAre
 [AV.agg [AV.int IntKind.i64 h, AV.int IntKind.u64 l], AV.int IntKind.i64 (1 : Int),
 AV.ptr (nat_lit 0) (nat_lit 0),
 AV.sl (nat_lit 1)
 [AV.int IntKind.i64 (absI (wv h l) / (1 : Int) % (65536 : Int)),
 AV.int IntKind.i64 (absI (wv h l) / (65536 : Int) % (65536 : Int)),
 AV.int IntKind.i64 (absI (wv h l) / (4294967296 : Int) % (65536 : Int)),
 AV.int IntKind.i64 (absI (wv h l) / (281474976710656 : Int) % (65536 : Int)),
 AV.int IntKind.i64
 (absI (wv h l) / (18446744073709551616 : Int) % (65536 : Int)),
 AV.int IntKind.i64
 (absI (wv h l) / (1208925819614629174706176 : Int) % (65536 : Int)),
 AV.int IntKind.i64
 (absI (wv h l) / (79228162514264337593543950336 : Int) % (65536 : Int)),
 AV.int IntKind.i64
 (absI (wv h l) / (5192296858534827628530496329220096 : Int) %
 (65536 : Int))]
 Own.no,
 AV.sl (nat_lit 1)
 [AV.int IntKind.i64 (1 : Int), AV.int IntKind.i64 (0 : Int),
 AV.int IntKind.i64 (0 : Int), AV.int IntKind.i64 (0 : Int),
 AV.int IntKind.i64 (0 : Int), AV.int IntKind.i64 (0 : Int),
 AV.int IntKind.i64 (0 : Int), AV.int IntKind.i64 (0 : Int)]
 Own.no,
 AV.sl (nat_lit 1) es Own.no,
 AV.int IntKind.i64
 (IntKind.i64.wrap
 ((2 : Int) * (absI (wv h l) / (2 : Int) ^ (nat_lit 128 - x)))),
 AV.int IntKind.i64 (IntKind.i64.wrap ((127 : Int) - (↑x : Int) - (1 : Int)))]
 [AV.agg [AV.int IntKind.i64 h, AV.int IntKind.u64 l], AV.int IntKind.i64 (1 : Int),
 AV.ptr (nat_lit 0) (nat_lit 0),
 AV.sl (nat_lit 1)
 [AV.int IntKind.i64 (absI (wv h l) / (1 : Int) % (65536 : Int)),
 AV.int IntKind.i64 (absI (wv h l) / (65536 : Int) % (65536 : Int)),
 AV.int IntKind.i64 (absI (wv h l) / (4294967296 : Int) % (65536 : Int)),
 AV.int IntKind.i64 (absI (wv h l) / (281474976710656 : Int) % (65536 : Int)),
 AV.int IntKind.i64
 (absI (wv h l) / (18446744073709551616 : Int) % (65536 : Int)),
 AV.int IntKind.i64
 (absI (wv h l) / (1208925819614629174706176 : Int) % (65536 : Int)),
 AV.int IntKind.i64
 (absI (wv h l) / (79228162514264337593543950336 : Int) % (65536 : Int)),
 AV.int IntKind.i64
 (absI (wv h l) / (5192296858534827628530496329220096 : Int) %
 (65536 : Int))]
 Own.no,
 AV.sl (nat_lit 1)
 [AV.int IntKind.i64 (1 : Int), AV.int IntKind.i64 (0 : Int),
 AV.int IntKind.i64 (0 : Int), AV.int IntKind.i64 (0 : Int),
 AV.int IntKind.i64 (0 : Int), AV.int IntKind.i64 (0 : Int),
 AV.int IntKind.i64 (0 : Int), AV.int IntKind.i64 (0 : Int)]
 Own.no,
 AV.sl (nat_lit 1)
 [AV.int IntKind.i64 (0 : Int), AV.int IntKind.i64 (0 : Int),
 AV.int IntKind.i64 (0 : Int), AV.int IntKind.i64 (0 : Int),
 AV.int IntKind.i64 (0 : Int), AV.int IntKind.i64 (0 : Int),
 AV.int IntKind.i64 (0 : Int), AV.int IntKind.i64 (0 : Int)]
 Own.no,
 AV.int IntKind.i64 (absI (wv h l) / (2 : Int) ^ (nat_lit 128 - y)),
 AV.int IntKind.i64 ((127 : Int) - (↑y : Int))] ∧
 StIs { boxes := [some [AV.int IntKind.i64 h, AV.int IntKind.u64 l]], live := [] }
 { boxes := [some [AV.int IntKind.i64 h, AV.int IntKind.u64 l]], live := [] } ∧
 (y ≤ (128 : Nat) ∧
 absI (wv h l) / (2 : Int) ^ ((128 : Nat) - y) ≤ (1152921504606846976 : Int)) ∧
 nat_lit 128 - y < nat_lit 128 - x)) ∧
 (b = false →
 ∃ (es_1 : List AV),
 CallIs
 (tbl
 [(nat_lit 70, s70), (nat_lit 51, s51), (nat_lit 71, s71), (nat_lit 72, s72),
 (nat_lit 73, s73)]
 (nat_lit 73)
 [AV.sl (nat_lit 1) es Own.no,
 AV.sl (nat_lit 1)
 [AV.int IntKind.i64 (1 : Int), AV.int IntKind.i64 (0 : Int),
 AV.int IntKind.i64 (0 : Int), AV.int IntKind.i64 (0 : Int),
 AV.int IntKind.i64 (0 : Int), AV.int IntKind.i64 (0 : Int),
 AV.int IntKind.i64 (0 : Int), AV.int IntKind.i64 (0 : Int)]
 Own.no])
 (AV.sl (nat_lit 1) es_1 (Own.tok (nat_lit 0))) [(es_1.length, nat_lit 3)] ∧
 (decide
 (IntKind.i64.wrap
 (IntKind.i64.wrap
 ((2 : Int) * (absI (wv h l) / (2 : Int) ^ (nat_lit 128 - x))) +
 (1 : Int)) >
 (1152921504606846976 : Int)) =
 true →
 RetIs (AV.tup [AV.int IntKind.i64 (0 : Int), AV.bool false]) []
 (AV.tup
 [AV.int IntKind.i64 (if small (wv h l) = true then wv h l else (0 : Int)),
 AV.bool (small (wv h l))],
 [])) ∧
 (decide
 (IntKind.i64.wrap
 (IntKind.i64.wrap
 ((2 : Int) * (absI (wv h l) / (2 : Int) ^ (nat_lit 128 - x))) +
 (1 : Int)) >
 (1152921504606846976 : Int)) =
 false →
 ∃ (y : Nat),
 ValsAre
 [AV.agg [AV.int IntKind.i64 h, AV.int IntKind.u64 l],
 AV.int IntKind.i64 (1 : Int), AV.ptr (nat_lit 0) (nat_lit 0),
 AV.sl (nat_lit 1)
 [AV.int IntKind.i64 (absI (wv h l) / (1 : Int) % (65536 : Int)),
 AV.int IntKind.i64 (absI (wv h l) / (65536 : Int) % (65536 : Int)),
 AV.int IntKind.i64 (absI (wv h l) / (4294967296 : Int) % (65536 : Int)),
 AV.int IntKind.i64
 (absI (wv h l) / (281474976710656 : Int) % (65536 : Int)),
 AV.int IntKind.i64
 (absI (wv h l) / (18446744073709551616 : Int) % (65536 : Int)),
 AV.int IntKind.i64
 (absI (wv h l) / (1208925819614629174706176 : Int) % (65536 : Int)),
 AV.int IntKind.i64
 (absI (wv h l) / (79228162514264337593543950336 : Int) % (65536 : Int)),
 AV.int IntKind.i64
 (absI (wv h l) / (5192296858534827628530496329220096 : Int) %
 (65536 : Int))]
 Own.no,
 AV.sl (nat_lit 1)
 [AV.int IntKind.i64 (1 : Int), AV.int IntKind.i64 (0 : Int),
 AV.int IntKind.i64 (0 : Int), AV.int IntKind.i64 (0 : Int),
 AV.int IntKind.i64 (0 : Int), AV.int IntKind.i64 (0 : Int),
 AV.int IntKind.i64 (0 : Int), AV.int IntKind.i64 (0 : Int)]
 Own.no,
 AV.sl (nat_lit 1) es_1 Own.no,
 AV.int IntKind.i64
 (IntKind.i64.wrap
 (IntKind.i64.wrap
 ((2 : Int) * (absI (wv h l) / (2 : Int) ^ (nat_lit 128 - x))) +
 (1 : Int))),
 AV.int IntKind.i64 (IntKind.i64.wrap ((127 : Int) - (↑x : Int) - (1 : Int)))]
 [AV.agg [AV.int IntKind.i64 h, AV.int IntKind.u64 l],
 AV.int IntKind.i64 (1 : Int), AV.ptr (nat_lit 0) (nat_lit 0),
 AV.sl (nat_lit 1)
 [AV.int IntKind.i64 (absI (wv h l) / (1 : Int) % (65536 : Int)),
 AV.int IntKind.i64 (absI (wv h l) / (65536 : Int) % (65536 : Int)),
 AV.int IntKind.i64 (absI (wv h l) / (4294967296 : Int) % (65536 : Int)),
 AV.int IntKind.i64
 (absI (wv h l) / (281474976710656 : Int) % (65536 : Int)),
 AV.int IntKind.i64
 (absI (wv h l) / (18446744073709551616 : Int) % (65536 : Int)),
 AV.int IntKind.i64
 (absI (wv h l) / (1208925819614629174706176 : Int) % (65536 : Int)),
 AV.int IntKind.i64
 (absI (wv h l) / (79228162514264337593543950336 : Int) % (65536 : Int)),
 AV.int IntKind.i64
 (absI (wv h l) / (5192296858534827628530496329220096 : Int) %
 (65536 : Int))]
 Own.no,
 AV.sl (nat_lit 1)
 [AV.int IntKind.i64 (1 : Int), AV.int IntKind.i64 (0 : Int),
 AV.int IntKind.i64 (0 : Int), AV.int IntKind.i64 (0 : Int),
 AV.int IntKind.i64 (0 : Int), AV.int IntKind.i64 (0 : Int),
 AV.int IntKind.i64 (0 : Int), AV.int IntKind.i64 (0 : Int)]
 Own.no,
 AV.sl (nat_lit 1)
 [AV.int IntKind.i64 (0 : Int), AV.int IntKind.i64 (0 : Int),
 AV.int IntKind.i64 (0 : Int), AV.int IntKind.i64 (0 : Int),
 AV.int IntKind.i64 (0 : Int), AV.int IntKind.i64 (0 : Int),
 AV.int IntKind.i64 (0 : Int), AV.int IntKind.i64 (0 : Int)]
 Own.no,
 AV.int IntKind.i64 (absI (wv h l) / (2 : Int) ^ (nat_lit 128 - y)),
 AV.int IntKind.i64 ((127 : Int) - (↑y : Int))] ∧
 StIs { boxes := [some [AV.int IntKind.i64 h, AV.int IntKind.u64 l]], live := [] }
 { boxes := [some [AV.int IntKind.i64 h, AV.int IntKind.u64 l]], live := [] } ∧
 (y ≤ (128 : Nat) ∧
 absI (wv h l) / (2 : Int) ^ ((128 : Nat) - y) ≤
 (1152921504606846976 : Int)) ∧
 nat_lit 128 - y < nat_lit 128 - x))) ∧
 (decide ((127 : Int) - (↑x : Int) ≥ (0 : Int)) = false →
 ∃ (_y : Unit),
 ValsAre
 [AV.agg [AV.int IntKind.i64 h, AV.int IntKind.u64 l], AV.int IntKind.i64 (1 : Int),
 AV.ptr (nat_lit 0) (nat_lit 0),
 AV.sl (nat_lit 1)
 [AV.int IntKind.i64 (1 : Int), AV.int IntKind.i64 (0 : Int), AV.int IntKind.i64 (0 : Int),
 AV.int IntKind.i64 (0 : Int), AV.int IntKind.i64 (0 : Int), AV.int IntKind.i64 (0 : Int),
 AV.int IntKind.i64 (0 : Int), AV.int IntKind.i64 (0 : Int)]
 Own.no,
 AV.sl (nat_lit 1)
 [AV.int IntKind.i64 (0 : Int), AV.int IntKind.i64 (0 : Int), AV.int IntKind.i64 (0 : Int),
 AV.int IntKind.i64 (0 : Int), AV.int IntKind.i64 (0 : Int), AV.int IntKind.i64 (0 : Int),
 AV.int IntKind.i64 (0 : Int), AV.int IntKind.i64 (0 : Int)]
 Own.no,
 AV.int IntKind.i64 (absI (wv h l) / (2 : Int) ^ (nat_lit 128 - x))]
 [AV.agg [AV.int IntKind.i64 h, AV.int IntKind.u64 l], AV.int IntKind.i64 (1 : Int),
 AV.ptr (nat_lit 0) (nat_lit 0),
 AV.sl (nat_lit 1)
 [AV.int IntKind.i64 (1 : Int), AV.int IntKind.i64 (0 : Int), AV.int IntKind.i64 (0 : Int),
 AV.int IntKind.i64 (0 : Int), AV.int IntKind.i64 (0 : Int), AV.int IntKind.i64 (0 : Int),
 AV.int IntKind.i64 (0 : Int), AV.int IntKind.i64 (0 : Int)]
 Own.no,
 AV.sl (nat_lit 1)
 [AV.int IntKind.i64 (0 : Int), AV.int IntKind.i64 (0 : Int), AV.int IntKind.i64 (0 : Int),
 AV.int IntKind.i64 (0 : Int), AV.int IntKind.i64 (0 : Int), AV.int IntKind.i64 (0 : Int),
 AV.int IntKind.i64 (0 : Int), AV.int IntKind.i64 (0 : Int)]
 Own.no,
 AV.int IntKind.i64 (absI (wv h l))] ∧
 StIs { boxes := [some [AV.int IntKind.i64 h, AV.int IntKind.u64 l]], live := [] }
 { boxes := [some [AV.int IntKind.i64 h, AV.int IntKind.u64 l]], live := [] } ∧
 absI (wv h l) ≤ (1152921504606846976 : Int) ∧ True)) ∧
 ∀ (_x : Unit),
 absI (wv h l) ≤ (1152921504606846976 : Int) →
 True →
 ∃ (es : List AV),
 CallIs
 (some
 (AV.sl (nat_lit 1)
 [AV.int IntKind.i64 (0 : Int), AV.int IntKind.i64 (0 : Int), AV.int IntKind.i64 (0 : Int),
 AV.int IntKind.i64 (0 : Int), AV.int IntKind.i64 (0 : Int), AV.int IntKind.i64 (0 : Int),
 AV.int IntKind.i64 (0 : Int), AV.int IntKind.i64 (0 : Int)]
 (Own.tok (nat_lit 0)),
 [(nat_lit 8, nat_lit 3)]))
 (AV.sl (nat_lit 1) es (Own.tok (nat_lit 0))) [(es.length, nat_lit 3)] ∧
 ∃ (b : Bool),
 CallIs
 (tbl [(nat_lit 70, s70), (nat_lit 51, s51), (nat_lit 71, s71), (nat_lit 72, s72), (nat_lit 73, s73)] (nat_lit 72)
 [AV.sl (nat_lit 1)
 [AV.int IntKind.i64 (1 : Int), AV.int IntKind.i64 (0 : Int), AV.int IntKind.i64 (0 : Int),
 AV.int IntKind.i64 (0 : Int), AV.int IntKind.i64 (0 : Int), AV.int IntKind.i64 (0 : Int),
 AV.int IntKind.i64 (0 : Int), AV.int IntKind.i64 (0 : Int)]
 Own.no,
 AV.sl (nat_lit 1) es Own.no])
 (AV.bool b) [] ∧
 (b = true →
 (decide (IntKind.i64.wrap (absI (wv h l) + (1 : Int)) > (1152921504606846976 : Int)) = true →
 RetIs (AV.tup [AV.int IntKind.i64 (0 : Int), AV.bool false]) []
 (AV.tup
 [AV.int IntKind.i64 (if small (wv h l) = true then wv h l else (0 : Int)), AV.bool (small (wv h l))],
 [])) ∧
 (decide (IntKind.i64.wrap (absI (wv h l) + (1 : Int)) > (1152921504606846976 : Int)) = false →
 (decide (h < (0 : Int)) = true →
 (false = true →
 (false = true →
 RetIs
 (AV.tup
 [AV.int IntKind.i64
 (IntKind.i64.wrap ((0 : Int) - IntKind.i64.wrap (absI (wv h l) + (1 : Int)))),
 AV.bool true])
 []
 (AV.tup
 [AV.int IntKind.i64 (if small (wv h l) = true then wv h l else (0 : Int)),
 AV.bool (small (wv h l))],
 [])) ∧
 (false = false →
 RetIs (AV.tup [AV.int IntKind.i64 (IntKind.i64.wrap (absI (wv h l) + (1 : Int))), AV.bool true])
 []
 (AV.tup
 [AV.int IntKind.i64 (if small (wv h l) = true then wv h l else (0 : Int)),
 AV.bool (small (wv h l))],
 []))) ∧
 (false = false →
 (true = true →
 RetIs
 (AV.tup
 [AV.int IntKind.i64
 (IntKind.i64.wrap ((0 : Int) - IntKind.i64.wrap (absI (wv h l) + (1 : Int)))),
 AV.bool true])
 []
 (AV.tup
 [AV.int IntKind.i64 (if small (wv h l) = true then wv h l else (0 : Int)),
 AV.bool (small (wv h l))],
 [])) ∧
 (true = false →
 RetIs (AV.tup [AV.int IntKind.i64 (IntKind.i64.wrap (absI (wv h l) + (1 : Int))), AV.bool true])
 []
 (AV.tup
 [AV.int IntKind.i64 (if small (wv h l) = true then wv h l else (0 : Int)),
 AV.bool (small (wv h l))],
 [])))) ∧
 (decide (h < (0 : Int)) = false →
 (false = true →
 (true = true →
 RetIs
 (AV.tup
 [AV.int IntKind.i64
 (IntKind.i64.wrap ((0 : Int) - IntKind.i64.wrap (absI (wv h l) + (1 : Int)))),
 AV.bool true])
 []
 (AV.tup
 [AV.int IntKind.i64 (if small (wv h l) = true then wv h l else (0 : Int)),
 AV.bool (small (wv h l))],
 [])) ∧
 (true = false →
 RetIs (AV.tup [AV.int IntKind.i64 (IntKind.i64.wrap (absI (wv h l) + (1 : Int))), AV.bool true])
 []
 (AV.tup
 [AV.int IntKind.i64 (if small (wv h l) = true then wv h l else (0 : Int)),
 AV.bool (small (wv h l))],
 []))) ∧
 (false = false →
 (false = true →
 RetIs
 (AV.tup
 [AV.int IntKind.i64
 (IntKind.i64.wrap ((0 : Int) - IntKind.i64.wrap (absI (wv h l) + (1 : Int)))),
 AV.bool true])
 []
 (AV.tup
 [AV.int IntKind.i64 (if small (wv h l) = true then wv h l else (0 : Int)),
 AV.bool (small (wv h l))],
 [])) ∧
 (false = false →
 RetIs (AV.tup [AV.int IntKind.i64 (IntKind.i64.wrap (absI (wv h l) + (1 : Int))), AV.bool true])
 []
 (AV.tup
 [AV.int IntKind.i64 (if small (wv h l) = true then wv h l else (0 : Int)),
 AV.bool (small (wv h l))],
 [])))))) ∧
 (b = false →
 ∃ (b : Bool),
 CallIs
 (tbl [(nat_lit 70, s70), (nat_lit 51, s51), (nat_lit 71, s71), (nat_lit 72, s72), (nat_lit 73, s73)]
 (nat_lit 72)
 [AV.sl (nat_lit 1) es Own.no,
 AV.sl (nat_lit 1)
 [AV.int IntKind.i64 (1 : Int), AV.int IntKind.i64 (0 : Int), AV.int IntKind.i64 (0 : Int),
 AV.int IntKind.i64 (0 : Int), AV.int IntKind.i64 (0 : Int), AV.int IntKind.i64 (0 : Int),
 AV.int IntKind.i64 (0 : Int), AV.int IntKind.i64 (0 : Int)]
 Own.no])
 (AV.bool b) [] ∧
 (b = true →
 (decide (absI (wv h l) > (1152921504606846976 : Int)) = true →
 RetIs (AV.tup [AV.int IntKind.i64 (0 : Int), AV.bool false]) []
 (AV.tup
 [AV.int IntKind.i64 (if small (wv h l) = true then wv h l else (0 : Int)),
 AV.bool (small (wv h l))],
 [])) ∧
 (decide (absI (wv h l) > (1152921504606846976 : Int)) = false →
 (decide (h < (0 : Int)) = true →
 (false = true →
 (false = true →
 RetIs
 (AV.tup
 [AV.int IntKind.i64 (IntKind.i64.wrap ((0 : Int) - absI (wv h l))), AV.bool true])
 []
 (AV.tup
 [AV.int IntKind.i64 (if small (wv h l) = true then wv h l else (0 : Int)),
 AV.bool (small (wv h l))],
 [])) ∧
 (false = false →
 RetIs (AV.tup [AV.int IntKind.i64 (absI (wv h l)), AV.bool true]) []
 (AV.tup
 [AV.int IntKind.i64 (if small (wv h l) = true then wv h l else (0 : Int)),
 AV.bool (small (wv h l))],
 []))) ∧
 (false = false →
 (true = true →
 RetIs
 (AV.tup
 [AV.int IntKind.i64 (IntKind.i64.wrap ((0 : Int) - absI (wv h l))), AV.bool true])
 []
 (AV.tup
 [AV.int IntKind.i64 (if small (wv h l) = true then wv h l else (0 : Int)),
 AV.bool (small (wv h l))],
 [])) ∧
 (true = false →
 RetIs (AV.tup [AV.int IntKind.i64 (absI (wv h l)), AV.bool true]) []
 (AV.tup
 [AV.int IntKind.i64 (if small (wv h l) = true then wv h l else (0 : Int)),
 AV.bool (small (wv h l))],
 [])))) ∧
 (decide (h < (0 : Int)) = false →
 (false = true →
 (true = true →
 RetIs
 (AV.tup
 [AV.int IntKind.i64 (IntKind.i64.wrap ((0 : Int) - absI (wv h l))), AV.bool true])
 []
 (AV.tup
 [AV.int IntKind.i64 (if small (wv h l) = true then wv h l else (0 : Int)),
 AV.bool (small (wv h l))],
 [])) ∧
 (true = false →
 RetIs (AV.tup [AV.int IntKind.i64 (absI (wv h l)), AV.bool true]) []
 (AV.tup
 [AV.int IntKind.i64 (if small (wv h l) = true then wv h l else (0 : Int)),
 AV.bool (small (wv h l))],
 []))) ∧
 (false = false →
 (false = true →
 RetIs
 (AV.tup
 [AV.int IntKind.i64 (IntKind.i64.wrap ((0 : Int) - absI (wv h l))), AV.bool true])
 []
 (AV.tup
 [AV.int IntKind.i64 (if small (wv h l) = true then wv h l else (0 : Int)),
 AV.bool (small (wv h l))],
 [])) ∧
 (false = false →
 RetIs (AV.tup [AV.int IntKind.i64 (absI (wv h l)), AV.bool true]) []
 (AV.tup
 [AV.int IntKind.i64 (if small (wv h l) = true then wv h l else (0 : Int)),
 AV.bool (small (wv h l))],
 [])))))) ∧
 (b = false →
 (2 : Int) ≠ (0 : Int) ∧
 (((absI (wv h l)).tmod (2 : Int) == (1 : Int)) = true →
 (decide (IntKind.i64.wrap (absI (wv h l) + (1 : Int)) > (1152921504606846976 : Int)) = true →
 RetIs (AV.tup [AV.int IntKind.i64 (0 : Int), AV.bool false]) []
 (AV.tup
 [AV.int IntKind.i64 (if small (wv h l) = true then wv h l else (0 : Int)),
 AV.bool (small (wv h l))],
 [])) ∧
 (decide (IntKind.i64.wrap (absI (wv h l) + (1 : Int)) > (1152921504606846976 : Int)) = false →
 (decide (h < (0 : Int)) = true →
 (false = true →
 (false = true →
 RetIs
 (AV.tup
 [AV.int IntKind.i64
 (IntKind.i64.wrap
 ((0 : Int) - IntKind.i64.wrap (absI (wv h l) + (1 : Int)))),
 AV.bool true])
 []
 (AV.tup
 [AV.int IntKind.i64 (if small (wv h l) = true then wv h l else (0 : Int)),
 AV.bool (small (wv h l))],
 [])) ∧
 (false = false →
 RetIs
 (AV.tup
 [AV.int IntKind.i64 (IntKind.i64.wrap (absI (wv h l) + (1 : Int))),
 AV.bool true])
 []
 (AV.tup
 [AV.int IntKind.i64 (if small (wv h l) = true then wv h l else (0 : Int)),
 AV.bool (small (wv h l))],
 []))) ∧
 (false = false →
 (true = true →
 RetIs
 (AV.tup
 [AV.int IntKind.i64
 (IntKind.i64.wrap
 ((0 : Int) - IntKind.i64.wrap (absI (wv h l) + (1 : Int)))),
 AV.bool true])
 []
 (AV.tup
 [AV.int IntKind.i64 (if small (wv h l) = true then wv h l else (0 : Int)),
 AV.bool (small (wv h l))],
 [])) ∧
 (true = false →
 RetIs
 (AV.tup
 [AV.int IntKind.i64 (IntKind.i64.wrap (absI (wv h l) + (1 : Int))),
 AV.bool true])
 []
 (AV.tup
 [AV.int IntKind.i64 (if small (wv h l) = true then wv h l else (0 : Int)),
 AV.bool (small (wv h l))],
 [])))) ∧
 (decide (h < (0 : Int)) = false →
 (false = true →
 (true = true →
 RetIs
 (AV.tup
 [AV.int IntKind.i64
 (IntKind.i64.wrap
 ((0 : Int) - IntKind.i64.wrap (absI (wv h l) + (1 : Int)))),
 AV.bool true])
 []
 (AV.tup
 [AV.int IntKind.i64 (if small (wv h l) = true then wv h l else (0 : Int)),
 AV.bool (small (wv h l))],
 [])) ∧
 (true = false →
 RetIs
 (AV.tup
 [AV.int IntKind.i64 (IntKind.i64.wrap (absI (wv h l) + (1 : Int))),
 AV.bool true])
 []
 (AV.tup
 [AV.int IntKind.i64 (if small (wv h l) = true then wv h l else (0 : Int)),
 AV.bool (small (wv h l))],
 []))) ∧
 (false = false →
 (false = true →
 RetIs
 (AV.tup
 [AV.int IntKind.i64
 (IntKind.i64.wrap
 ((0 : Int) - IntKind.i64.wrap (absI (wv h l) + (1 : Int)))),
 AV.bool true])
 []
 (AV.tup
 [AV.int IntKind.i64 (if small (wv h l) = true then wv h l else (0 : Int)),
 AV.bool (small (wv h l))],
 [])) ∧
 (false = false →
 RetIs
 (AV.tup
 [AV.int IntKind.i64 (IntKind.i64.wrap (absI (wv h l) + (1 : Int))),
 AV.bool true])
 []
 (AV.tup
 [AV.int IntKind.i64 (if small (wv h l) = true then wv h l else (0 : Int)),
 AV.bool (small (wv h l))],
 [])))))) ∧
 (((absI (wv h l)).tmod (2 : Int) == (1 : Int)) = false →
 (decide (absI (wv h l) > (1152921504606846976 : Int)) = true →
 RetIs (AV.tup [AV.int IntKind.i64 (0 : Int), AV.bool false]) []
 (AV.tup
 [AV.int IntKind.i64 (if small (wv h l) = true then wv h l else (0 : Int)),
 AV.bool (small (wv h l))],
 [])) ∧
 (decide (absI (wv h l) > (1152921504606846976 : Int)) = false →
 (decide (h < (0 : Int)) = true →
 (false = true →
 (false = true →
 RetIs
 (AV.tup
 [AV.int IntKind.i64 (IntKind.i64.wrap ((0 : Int) - absI (wv h l))),
 AV.bool true])
 []
 (AV.tup
 [AV.int IntKind.i64 (if small (wv h l) = true then wv h l else (0 : Int)),
 AV.bool (small (wv h l))],
 [])) ∧
 (false = false →
 RetIs (AV.tup [AV.int IntKind.i64 (absI (wv h l)), AV.bool true]) []
 (AV.tup
 [AV.int IntKind.i64 (if small (wv h l) = true then wv h l else (0 : Int)),
 AV.bool (small (wv h l))],
 []))) ∧
 (false = false →
 (true = true →
 RetIs
 (AV.tup
 [AV.int IntKind.i64 (IntKind.i64.wrap ((0 : Int) - absI (wv h l))),
 AV.bool true])
 []
 (AV.tup
 [AV.int IntKind.i64 (if small (wv h l) = true then wv h l else (0 : Int)),
 AV.bool (small (wv h l))],
 [])) ∧
 (true = false →
 RetIs (AV.tup [AV.int IntKind.i64 (absI (wv h l)), AV.bool true]) []
 (AV.tup
 [AV.int IntKind.i64 (if small (wv h l) = true then wv h l else (0 : Int)),
 AV.bool (small (wv h l))],
 [])))) ∧
 (decide (h < (0 : Int)) = false →
 (false = true →
 (true = true →
 RetIs
 (AV.tup
 [AV.int IntKind.i64 (IntKind.i64.wrap ((0 : Int) - absI (wv h l))),
 AV.bool true])
 []
 (AV.tup
 [AV.int IntKind.i64 (if small (wv h l) = true then wv h l else (0 : Int)),
 AV.bool (small (wv h l))],
 [])) ∧
 (true = false →
 RetIs (AV.tup [AV.int IntKind.i64 (absI (wv h l)), AV.bool true]) []
 (AV.tup
 [AV.int IntKind.i64 (if small (wv h l) = true then wv h l else (0 : Int)),
 AV.bool (small (wv h l))],
 []))) ∧
 (false = false →
 (false = true →
 RetIs
 (AV.tup
 [AV.int IntKind.i64 (IntKind.i64.wrap ((0 : Int) - absI (wv h l))),
 AV.bool true])
 []
 (AV.tup
 [AV.int IntKind.i64 (if small (wv h l) = true then wv h l else (0 : Int)),
 AV.bool (small (wv h l))],
 [])) ∧
 (false = false →
 RetIs (AV.tup [AV.int IntKind.i64 (absI (wv h l)), AV.bool true]) []
 (AV.tup
 [AV.int IntKind.i64 (if small (wv h l) = true then wv h l else (0 : Int)),
 AV.bool (small (wv h l))],
 [])))))))))) := by kernel_rfl
theorem w33 (m : Int) (s : List UInt8) : (pureW PU (GU m) XE (tbl []) (itbl []) (a33 s) [] 33 [.str s] (.bool (wordB s), [])) =
((decide ((↑s.length : Int) < (1 : Int)) = true → RetIs (AV.bool false) [] (AV.bool (wordB s), [])) ∧
  (decide ((↑s.length : Int) < (1 : Int)) = false →
    (decide ((↑s.length : Int) > (24 : Int)) = true → RetIs (AV.bool false) [] (AV.bool (wordB s), [])) ∧
      (decide ((↑s.length : Int) > (24 : Int)) = false →
        (0 : Int) ≤ (0 : Int) ∧
 ∃ (c : UInt8),
 s[nat_lit 0]? = some c ∧
 (decide ((↑c.toNat : Int) < (97 : Int)) = true → RetIs (AV.bool false) [] (AV.bool (wordB s), [])) ∧
 (decide ((↑c.toNat : Int) < (97 : Int)) = false →
 (0 : Int) ≤ (0 : Int) ∧
 ∃ (c : UInt8),
 s[nat_lit 0]? = some c ∧
 (decide ((↑c.toNat : Int) > (122 : Int)) = true → RetIs (AV.bool false) [] (AV.bool (wordB s), [])) ∧
 (decide ((↑c.toNat : Int) > (122 : Int)) = false →
 (∃ (y : Nat),
 ValsAre [AV.str s, AV.int IntKind.i64 (0 : Int)] [AV.str s, AV.int IntKind.i64 (↑y : Int)] ∧
 StIs { boxes := [], live := [] } { boxes := [], live := [] } ∧ (y ≤ s.length ∧ (List.take y s).all inB = true) ∧ True) ∧
 ∀ (x : Nat),
 x ≤ s.length ∧ (List.take x s).all inB = true →
 (decide ((↑x : Int) < (↑s.length : Int)) = true →
 (0 : Int) ≤ (↑x : Int) ∧
 ∃ (c : UInt8),
 s[(↑x : Int).toNat]? = some c ∧
 (decide ((↑c.toNat : Int) ≥ (97 : Int)) = true →
 (0 : Int) ≤ (↑x : Int) ∧
 ∃ (c : UInt8),
 s[(↑x : Int).toNat]? = some c ∧
 (decide ((↑c.toNat : Int) ≤ (122 : Int)) = true →
 (0 : Int) ≤ (↑x : Int) ∧
 ∃ (c : UInt8),
 s[(↑x : Int).toNat]? = some c ∧
 (decide ((↑c.toNat : Int) ≥ (48 : Int)) = true →
 (0 : Int) ≤ (↑x : Int) ∧
 ∃ (c : UInt8),
 s[(↑x : Int).toNat]? = some c ∧
 (decide ((↑c.toNat : Int) ≤ (57 : Int)) = true →
 ∃ (y : Nat),
 ValsAre
 [AV.str s, AV.int IntKind.i64 (IntKind.i64.wrap ((↑x : Int) + (1 : Int)))]
 [AV.str s, AV.int IntKind.i64 (↑y : Int)] ∧
 StIs { boxes := [], live := [] } { boxes := [], live := [] } ∧
 (y ≤ s.length ∧ (List.take y s).all inB = true) ∧
 s.length - y < s.length - x) ∧
 (decide ((↑c.toNat : Int) ≤ (57 : Int)) = false →
 ∃ (y : Nat),
 ValsAre
 [AV.str s, AV.int IntKind.i64 (IntKind.i64.wrap ((↑x : Int) + (1 : Int)))]
 [AV.str s, AV.int IntKind.i64 (↑y : Int)] ∧
 StIs { boxes := [], live := [] } { boxes := [], live := [] } ∧
 (y ≤ s.length ∧ (List.take y s).all inB = true) ∧
 s.length - y < s.length - x)) ∧
 (decide ((↑c.toNat : Int) ≥ (48 : Int)) = false →
 ∃ (y : Nat),
 ValsAre [AV.str s, AV.int IntKind.i64 (IntKind.i64.wrap ((↑x : Int) + (1 : Int)))]
 [AV.str s, AV.int IntKind.i64 (↑y : Int)] ∧
 StIs { boxes := [], live := [] } { boxes := [], live := [] } ∧
 (y ≤ s.length ∧ (List.take y s).all inB = true) ∧ s.length - y < s.length - x)) ∧
 (decide ((↑c.toNat : Int) ≤ (122 : Int)) = false →
 (0 : Int) ≤ (↑x : Int) ∧
 ∃ (c : UInt8),
 s[(↑x : Int).toNat]? = some c ∧
 (decide ((↑c.toNat : Int) ≥ (48 : Int)) = true →
 (0 : Int) ≤ (↑x : Int) ∧
 ∃ (c : UInt8),
 s[(↑x : Int).toNat]? = some c ∧
 (decide ((↑c.toNat : Int) ≤ (57 : Int)) = true →
 ∃ (y : Nat),
 ValsAre
 [AV.str s, AV.int IntKind.i64 (IntKind.i64.wrap ((↑x : Int) + (1 : Int)))]
 [AV.str s, AV.int IntKind.i64 (↑y : Int)] ∧
 StIs { boxes := [], live := [] } { boxes := [], live := [] } ∧
 (y ≤ s.length ∧ (List.take y s).all inB = true) ∧
 s.length - y < s.length - x) ∧
 (decide ((↑c.toNat : Int) ≤ (57 : Int)) = false →
 (0 : Int) ≤ (↑x : Int) ∧
 ∃ (c : UInt8),
 s[(↑x : Int).toNat]? = some c ∧
 (((↑c.toNat : Int) != (95 : Int)) = true →
 RetIs (AV.bool false) [] (AV.bool (wordB s), [])) ∧
 (((↑c.toNat : Int) != (95 : Int)) = false →
 ∃ (y : Nat),
 ValsAre
 [AV.str s,
 AV.int IntKind.i64 (IntKind.i64.wrap ((↑x : Int) + (1 : Int)))]
 [AV.str s, AV.int IntKind.i64 (↑y : Int)] ∧
 StIs { boxes := [], live := [] } { boxes := [], live := [] } ∧
 (y ≤ s.length ∧ (List.take y s).all inB = true) ∧
 s.length - y < s.length - x))) ∧
 (decide ((↑c.toNat : Int) ≥ (48 : Int)) = false →
 (0 : Int) ≤ (↑x : Int) ∧
 ∃ (c : UInt8),
 s[(↑x : Int).toNat]? = some c ∧
 (((↑c.toNat : Int) != (95 : Int)) = true →
 RetIs (AV.bool false) [] (AV.bool (wordB s), [])) ∧
 (((↑c.toNat : Int) != (95 : Int)) = false →
 ∃ (y : Nat),
 ValsAre
 [AV.str s, AV.int IntKind.i64 (IntKind.i64.wrap ((↑x : Int) + (1 : Int)))]
 [AV.str s, AV.int IntKind.i64 (↑y : Int)] ∧
 StIs { boxes := [], live := [] } { boxes := [], live := [] } ∧
 (y ≤ s.length ∧ (List.take y s).all inB = true) ∧
 s.length - y < s.length - x)))) ∧
 (decide ((↑c.toNat : Int) ≥ (97 : Int)) = false →
 (0 : Int) ≤ (↑x : Int) ∧
 ∃ (c : UInt8),
 s[(↑x : Int).toNat]? = some c ∧
 (decide ((↑c.toNat : Int) ≥ (48 : Int)) = true →
 (0 : Int) ≤ (↑x : Int) ∧
 ∃ (c : UInt8),
 s[(↑x : Int).toNat]? = some c ∧
 (decide ((↑c.toNat : Int) ≤ (57 : Int)) = true →
 ∃ (y : Nat),
 ValsAre [AV.str s, AV.int IntKind.i64 (IntKind.i64.wrap ((↑x : Int) + (1 : Int)))]
 [AV.str s, AV.int IntKind.i64 (↑y : Int)] ∧
 StIs { boxes := [], live := [] } { boxes := [], live := [] } ∧
 (y ≤ s.length ∧ (List.take y s).all inB = true) ∧ s.length - y < s.length - x) ∧
 (decide ((↑c.toNat : Int) ≤ (57 : Int)) = false →
 (0 : Int) ≤ (↑x : Int) ∧
 ∃ (c : UInt8),
 s[(↑x : Int).toNat]? = some c ∧
 (((↑c.toNat : Int) != (95 : Int)) = true →
 RetIs (AV.bool false) [] (AV.bool (wordB s), [])) ∧
 (((↑c.toNat : Int) != (95 : Int)) = false →
 ∃ (y : Nat),
 ValsAre
 [AV.str s, AV.int IntKind.i64 (IntKind.i64.wrap ((↑x : Int) + (1 : Int)))]
 [AV.str s, AV.int IntKind.i64 (↑y : Int)] ∧
 StIs { boxes := [], live := [] } { boxes := [], live := [] } ∧
 (y ≤ s.length ∧ (List.take y s).all inB = true) ∧
 s.length - y < s.length - x))) ∧
 (decide ((↑c.toNat : Int) ≥ (48 : Int)) = false →
 (0 : Int) ≤ (↑x : Int) ∧
 ∃ (c : UInt8),
 s[(↑x : Int).toNat]? = some c ∧
 (((↑c.toNat : Int) != (95 : Int)) = true → RetIs (AV.bool false) [] (AV.bool (wordB s), [])) ∧
 (((↑c.toNat : Int) != (95 : Int)) = false →
 ∃ (y : Nat),
 ValsAre [AV.str s, AV.int IntKind.i64 (IntKind.i64.wrap ((↑x : Int) + (1 : Int)))]
 [AV.str s, AV.int IntKind.i64 (↑y : Int)] ∧
 StIs { boxes := [], live := [] } { boxes := [], live := [] } ∧
 (y ≤ s.length ∧ (List.take y s).all inB = true) ∧ s.length - y < s.length - x)))) ∧
 (decide ((↑x : Int) < (↑s.length : Int)) = false → RetIs (AV.bool true) [] (AV.bool (wordB s), []))))))) := by kernel_rfl
theorem w36 (m : Int) (n : Int) : (pureW PU (GU m) XE (tbl []) (itbl []) nAn [] 36 [.int .i64 n] (.bool (farB n), [])) =
((decide (n > (8 : Int)) = true → RetIs (AV.bool true) [] (AV.bool (farB n), [])) ∧
  (decide (n > (8 : Int)) = false →
    (decide (n < (-8 : Int)) = true → RetIs (AV.bool true) [] (AV.bool (farB n), [])) ∧
      (decide (n < (-8 : Int)) = false → RetIs (AV.bool false) [] (AV.bool (farB n), [])))) := by kernel_rfl
theorem w14 (m : Int) (l : List Fac) : (pureW PU (GU m) XE (tbl [(33, s33), (36, s36)]) (itbl []) (a14 l) [] 14 [.sl 2 (facsL l) .no] (.int .i64 (checkF l), [])) =
((decide ((↑(facsL l).length : Int) > (4 : Int)) = true → RetIs (AV.int IntKind.i64 (2 : Int)) [] (AV.int IntKind.i64 (checkF l), [])) ∧
  (decide ((↑(facsL l).length : Int) > (4 : Int)) = false →
    (∃ (y : Nat),
        ValsAre [AV.sl (nat_lit 2) (facsL l) Own.no, AV.int IntKind.i64 (0 : Int)] [AV.sl (nat_lit 2) (facsL l) Own.no, AV.int IntKind.i64 (↑y : Int)] ∧
 StIs { boxes := [], live := [] } { boxes := [], live := [] } ∧
 (y ≤ l.length ∧ l.length ≤ (4 : Nat) ∧ chk none l = chk (if y = (0 : Nat) then none else some (l.getD (y - (1 : Nat)) default).s) (List.drop y l)) ∧
 True) ∧
      ∀ (x : Nat),
        x ≤ l.length ∧ l.length ≤ (4 : Nat) ∧ chk none l = chk (if x = (0 : Nat) then none else some (l.getD (x - (1 : Nat)) default).s) (List.drop x l) →
 (decide ((↑x : Int) < (↑(facsL l).length : Int)) = true →
 ((0 : Int) ≤ (↑x : Int) ∧ (↑x : Int) < (↑(facsL l).length : Int)) ∧
 ∃ (s : List UInt8),
 takeAt PU (nat_lit 9) (facsL l) (↑x : Int).toNat (nat_lit 0) = some (AV.str s) ∧
 ∃ (b : Bool),
 CallIs (some (AV.bool (wordB s), [])) (AV.bool b) [] ∧
 (b = true →
 ((0 : Int) ≤ (↑x : Int) ∧ (↑x : Int) < (↑(facsL l).length : Int)) ∧
 ∃ (n : Int),
 takeAt PU (nat_lit 3) (facsL l) (↑x : Int).toNat (nat_lit 1) = some (AV.int IntKind.i64 n) ∧
 ((n == (0 : Int)) = true → RetIs (AV.int IntKind.i64 (70 : Int)) [] (AV.int IntKind.i64 (checkF l), [])) ∧
 ((n == (0 : Int)) = false →
 ((0 : Int) ≤ (↑x : Int) ∧ (↑x : Int) < (↑(facsL l).length : Int)) ∧
 ∃ (n : Int),
 takeAt PU (nat_lit 3) (facsL l) (↑x : Int).toNat (nat_lit 1) = some (AV.int IntKind.i64 n) ∧
 ∃ (b : Bool),
 CallIs (some (AV.bool (farB n), [])) (AV.bool b) [] ∧
 (b = true → RetIs (AV.int IntKind.i64 (70 : Int)) [] (AV.int IntKind.i64 (checkF l), [])) ∧
 (b = false →
 (decide ((↑x : Int) > (0 : Int)) = true →
 ((0 : Int) ≤ (↑x : Int) ∧ (↑x : Int) < (↑(facsL l).length : Int)) ∧
 ∃ (s : List UInt8),
 takeAt PU (nat_lit 9) (facsL l) (↑x : Int).toNat (nat_lit 0) = some (AV.str s) ∧
 ((0 : Int) ≤ IntKind.i64.wrap ((↑x : Int) - (1 : Int)) ∧
 IntKind.i64.wrap ((↑x : Int) - (1 : Int)) < (↑(facsL l).length : Int)) ∧
 ∃ (s_1 : List UInt8),
 takeAt PU (nat_lit 9) (facsL l) (IntKind.i64.wrap ((↑x : Int) - (1 : Int))).toNat
 (nat_lit 0) =
 some (AV.str s_1) ∧
 ((Op.bytesLess s s_1 || s == s_1) = true →
 RetIs (AV.int IntKind.i64 (3 : Int)) [] (AV.int IntKind.i64 (checkF l), [])) ∧
 ((Op.bytesLess s s_1 || s == s_1) = false →
 ∃ (y : Nat),
 ValsAre
 [AV.sl (nat_lit 2) (facsL l) Own.no,
 AV.int IntKind.i64 (IntKind.i64.wrap ((↑x : Int) + (1 : Int)))]
 [AV.sl (nat_lit 2) (facsL l) Own.no, AV.int IntKind.i64 (↑y : Int)] ∧
 StIs { boxes := [], live := [] } { boxes := [], live := [] } ∧
 (y ≤ l.length ∧
 l.length ≤ (4 : Nat) ∧
 chk none l =
 chk
 (if y = (0 : Nat) then none
 else some (l.getD (y - (1 : Nat)) default).s)
 (List.drop y l)) ∧
 l.length - y < l.length - x)) ∧
 (decide ((↑x : Int) > (0 : Int)) = false →
 ∃ (y : Nat),
 ValsAre
 [AV.sl (nat_lit 2) (facsL l) Own.no,
 AV.int IntKind.i64 (IntKind.i64.wrap ((↑x : Int) + (1 : Int)))]
 [AV.sl (nat_lit 2) (facsL l) Own.no, AV.int IntKind.i64 (↑y : Int)] ∧
 StIs { boxes := [], live := [] } { boxes := [], live := [] } ∧
 (y ≤ l.length ∧
 l.length ≤ (4 : Nat) ∧
 chk none l =
 chk (if y = (0 : Nat) then none else some (l.getD (y - (1 : Nat)) default).s)
 (List.drop y l)) ∧
 l.length - y < l.length - x)))) ∧
 (b = false → RetIs (AV.int IntKind.i64 (1 : Int)) [] (AV.int IntKind.i64 (checkF l), []))) ∧
 (decide ((↑x : Int) < (↑(facsL l).length : Int)) = false → RetIs (AV.int IntKind.i64 (0 : Int)) [] (AV.int IntKind.i64 (checkF l), [])))) := by kernel_rfl
theorem w34 (m : Int) (l : List Fac) : (laxW PU (GU m) XE (tbl []) (itbl []) (a34 l) [] 34 [.sl 2 (facsL l) .no] (.sl 1 (strsA (namesOf l)) .no, [])) =
((∃ (y : Nat),
    ValsAre [AV.sl (nat_lit 2) (facsL l) Own.no, AV.sl (nat_lit 1) [] Own.no, AV.int IntKind.i64 (0 : Int)]
        [AV.sl (nat_lit 2) (facsL l) Own.no, AV.sl (nat_lit 1) (strsA (nmL l y)) Own.no, AV.int IntKind.i64 (↑y : Int)] ∧
      StIs { boxes := [], live := [] } { boxes := [], live := [] } ∧ y ≤ l.length ∧ True) ∧
  ∀ (x : Nat),
    x ≤ l.length →
      (decide ((↑x : Int) < (↑(facsL l).length : Int)) = true →
 (∃ (y : Nat × Nat),
 ValsAre
 [AV.sl (nat_lit 2) (facsL l) Own.no, AV.sl (nat_lit 1) (strsA (nmL l x)) Own.no, AV.int IntKind.i64 (↑x : Int), AV.int IntKind.i64 (0 : Int)]
 [AV.sl (nat_lit 2) (facsL l) Own.no, AV.sl (nat_lit 1) (strsA (nmL l y.fst)) Own.no, AV.int IntKind.i64 (↑y.fst : Int),
 AV.int IntKind.i64 (↑y.snd : Int)] ∧
 StIs { boxes := [], live := [] } { boxes := [], live := [] } ∧
 (y.fst < l.length ∧ y.snd ≤ (nmL l y.fst).length ∧ ∀ (s : List UInt8), s ∈ List.take y.snd (nmL l y.fst) → s < (l.getD y.fst default).s) ∧
 some (AV.int IntKind.i64 (↑x : Int)) = some (AV.int IntKind.i64 (↑y.fst : Int))) ∧
 ∀ (x_1 : Nat × Nat),
 (x_1.fst < l.length ∧
 x_1.snd ≤ (nmL l x_1.fst).length ∧ ∀ (s : List UInt8), s ∈ List.take x_1.snd (nmL l x_1.fst) → s < (l.getD x_1.fst default).s) →
 some (AV.int IntKind.i64 (↑x : Int)) = some (AV.int IntKind.i64 (↑x_1.fst : Int)) →
 (decide ((↑x_1.snd : Int) < (↑(strsA (nmL l x_1.fst)).length : Int)) = true →
 ((0 : Int) ≤ (↑x_1.snd : Int) ∧ (↑x_1.snd : Int) < (↑(strsA (nmL l x_1.fst)).length : Int)) ∧
 ∃ (s : List UInt8),
 takeAt PU (nat_lit 9) (strsA (nmL l x_1.fst)) (↑x_1.snd : Int).toNat (nat_lit 0) = some (AV.str s) ∧
 ((0 : Int) ≤ (↑x_1.fst : Int) ∧ (↑x_1.fst : Int) < (↑(facsL l).length : Int)) ∧
 ∃ (s_1 : List UInt8),
 takeAt PU (nat_lit 9) (facsL l) (↑x_1.fst : Int).toNat (nat_lit 0) = some (AV.str s_1) ∧
 (Op.bytesLess s s_1 = true →
 ∃ (y : Nat × Nat),
 ValsAre
 [AV.sl (nat_lit 2) (facsL l) Own.no, AV.sl (nat_lit 1) (strsA (nmL l x_1.fst)) Own.no,
 AV.int IntKind.i64 (↑x_1.fst : Int), AV.int IntKind.i64 (IntKind.i64.wrap ((↑x_1.snd : Int) + (1 : Int)))]
 [AV.sl (nat_lit 2) (facsL l) Own.no, AV.sl (nat_lit 1) (strsA (nmL l y.fst)) Own.no,
 AV.int IntKind.i64 (↑y.fst : Int), AV.int IntKind.i64 (↑y.snd : Int)] ∧
 StIs { boxes := [], live := [] } { boxes := [], live := [] } ∧
 (y.fst < l.length ∧
 y.snd ≤ (nmL l y.fst).length ∧
 ∀ (s : List UInt8), s ∈ List.take y.snd (nmL l y.fst) → s < (l.getD y.fst default).s) ∧
 some (AV.int IntKind.i64 (↑x : Int)) = some (AV.int IntKind.i64 (↑y.fst : Int)) ∧
 (nmL l y.fst).length - y.snd < (nmL l x_1.fst).length - x_1.snd) ∧
 (Op.bytesLess s s_1 = false →
 ((decide ((↑x_1.snd : Int) < (↑(strsA (nmL l x_1.fst)).length : Int)) = true →
 ((0 : Int) ≤ (↑x_1.snd : Int) ∧ (↑x_1.snd : Int) < (↑(strsA (nmL l x_1.fst)).length : Int)) ∧
 ∃ (s : List UInt8),
 takeAt PU (nat_lit 9) (strsA (nmL l x_1.fst)) (↑x_1.snd : Int).toNat (nat_lit 0) = some (AV.str s) ∧
 ((0 : Int) ≤ (↑x_1.fst : Int) ∧ (↑x_1.fst : Int) < (↑(facsL l).length : Int)) ∧
 ∃ (s_2 : List UInt8),
 takeAt PU (nat_lit 9) (facsL l) (↑x_1.fst : Int).toNat (nat_lit 0) = some (AV.str s_2) ∧
 ((s == s_2) = true →
 ∃ (y : Nat),
 ValsAre
 [AV.sl (nat_lit 2) (facsL l) Own.no, AV.sl (nat_lit 1) (strsA (nmL l x_1.fst)) Own.no,
 AV.int IntKind.i64 (IntKind.i64.wrap ((↑x_1.fst : Int) + (1 : Int)))]
 [AV.sl (nat_lit 2) (facsL l) Own.no, AV.sl (nat_lit 1) (strsA (nmL l y)) Own.no,
 AV.int IntKind.i64 (↑y : Int)] ∧
 StIs { boxes := [], live := [] } { boxes := [], live := [] } ∧
 y ≤ l.length ∧ l.length - y < l.length - x) ∧
 ((s == s_2) = false →
 ∃ (y : Nat × Nat),
 ValsAre
 [AV.sl (nat_lit 2) (facsL l) Own.no, AV.sl (nat_lit 1) (strsA (nmL l x_1.fst)) Own.no,
 AV.int IntKind.i64 (↑x_1.fst : Int), AV.int IntKind.i64 (↑x_1.snd : Int)]
 [AV.sl (nat_lit 2) (facsL l) Own.no, AV.sl (nat_lit 1) (strsA (nmL l y.fst)) Own.no,
 AV.int IntKind.i64 (↑y.fst : Int), AV.int IntKind.i64 (↑y.snd : Int)] ∧
 StIs { boxes := [], live := [] } { boxes := [], live := [] } ∧
 (y.fst < l.length ∧
 y.snd ≤ (nmL l y.fst).length ∧
 (∀ (s : List UInt8), s ∈ List.take y.snd (nmL l y.fst) → s < (l.getD y.fst default).s) ∧
 ∀ (s : List UInt8),
 s ∈ List.drop y.snd (nmL l y.fst) → (l.getD y.fst default).s < s) ∧
 some (AV.int IntKind.i64 (↑x_1.fst : Int)) = some (AV.int IntKind.i64 (↑y.fst : Int)) ∧
 some (AV.int IntKind.i64 (↑x_1.snd : Int)) = some (AV.int IntKind.i64 (↑y.snd : Int)))) ∧
 (decide ((↑x_1.snd : Int) < (↑(strsA (nmL l x_1.fst)).length : Int)) = false →
 ∃ (y : Nat × Nat),
 ValsAre
 [AV.sl (nat_lit 2) (facsL l) Own.no, AV.sl (nat_lit 1) (strsA (nmL l x_1.fst)) Own.no,
 AV.int IntKind.i64 (↑x_1.fst : Int), AV.int IntKind.i64 (↑x_1.snd : Int)]
 [AV.sl (nat_lit 2) (facsL l) Own.no, AV.sl (nat_lit 1) (strsA (nmL l y.fst)) Own.no,
 AV.int IntKind.i64 (↑y.fst : Int), AV.int IntKind.i64 (↑y.snd : Int)] ∧
 StIs { boxes := [], live := [] } { boxes := [], live := [] } ∧
 (y.fst < l.length ∧
 y.snd ≤ (nmL l y.fst).length ∧
 (∀ (s : List UInt8), s ∈ List.take y.snd (nmL l y.fst) → s < (l.getD y.fst default).s) ∧
 ∀ (s : List UInt8), s ∈ List.drop y.snd (nmL l y.fst) → (l.getD y.fst default).s < s) ∧
 some (AV.int IntKind.i64 (↑x_1.fst : Int)) = some (AV.int IntKind.i64 (↑y.fst : Int)) ∧
 some (AV.int IntKind.i64 (↑x_1.snd : Int)) = some (AV.int IntKind.i64 (↑y.snd : Int)))) ∧
 ∀ (x_2 : Nat × Nat),
 (x_2.fst < l.length ∧
 x_2.snd ≤ (nmL l x_2.fst).length ∧
 (∀ (s : List UInt8), s ∈ List.take x_2.snd (nmL l x_2.fst) → s < (l.getD x_2.fst default).s) ∧
 ∀ (s : List UInt8), s ∈ List.drop x_2.snd (nmL l x_2.fst) → (l.getD x_2.fst default).s < s) →
 some (AV.int IntKind.i64 (↑x_1.fst : Int)) = some (AV.int IntKind.i64 (↑x_2.fst : Int)) ∧
 some (AV.int IntKind.i64 (↑x_1.snd : Int)) = some (AV.int IntKind.i64 (↑x_2.snd : Int)) →
 (0 : Int) ≤ (↑x_2.snd : Int) ∧
 (nat_lit 0 ≤ (↑x_2.snd : Int).toNat ∧ (↑x_2.snd : Int).toNat ≤ (strsA (nmL l x_2.fst)).length) ∧
 (nat_lit 1 = nat_lit 1 ∨ strsA (nmL l x_2.fst) = []) ∧
 (nat_lit 0 = nat_lit 1 ∨ ([] : List AV) = []) ∧
 (nat_lit 0 + (List.drop (nat_lit 0) (List.take (↑x_2.snd : Int).toNat (strsA (nmL l x_2.fst)))).length) *
 nat_lit 17 ≤
 nat_lit 70368744177664 ∧
 (List.drop (nat_lit 0) (List.take (↑x_2.snd : Int).toNat (strsA (nmL l x_2.fst))) = [] →
 ((0 : Int) ≤ (↑x_2.fst : Int) ∧ (↑x_2.fst : Int) < (↑(facsL l).length : Int)) ∧
 ∃ (s : List UInt8),
 takeAt PU (nat_lit 9) (facsL l) (↑x_2.fst : Int).toNat (nat_lit 0) = some (AV.str s) ∧
 (nat_lit 0 = nat_lit 1 ∨ ([] : List AV) = []) ∧
 (nat_lit 0 + (1 : Nat)) * nat_lit 17 ≤ nat_lit 70368744177664 ∧
 (0 : Int) ≤ (↑x_2.snd : Int) ∧
 ((↑x_2.snd : Int).toNat ≤ (strsA (nmL l x_2.fst)).length ∧
 (strsA (nmL l x_2.fst)).length ≤ (strsA (nmL l x_2.fst)).length) ∧
 (nat_lit 1 = nat_lit 1 ∨ strsA (nmL l x_2.fst) = []) ∧
 (nat_lit 1 = nat_lit 1 ∨ [AV.str s] = []) ∧
 ((1 : Nat) +
 (List.drop (↑x_2.snd : Int).toNat
 (List.take (strsA (nmL l x_2.fst)).length
 (strsA (nmL l x_2.fst)))).length) *
 nat_lit 17 ≤
 nat_lit 70368744177664 ∧
 nat_lit 1 = (1 : Nat) ∧
 ∃ (y : Nat),
 ValsAre
 [AV.sl (nat_lit 2) (facsL l) Own.no,
 AV.sl (nat_lit 1)
 ([AV.str s] ++
 List.drop (↑x_2.snd : Int).toNat
 (List.take (strsA (nmL l x_2.fst)).length
 (strsA (nmL l x_2.fst))))
 Own.no,
 AV.int IntKind.i64 (IntKind.i64.wrap ((↑x_2.fst : Int) + (1 : Int)))]
 [AV.sl (nat_lit 2) (facsL l) Own.no,
 AV.sl (nat_lit 1) (strsA (nmL l y)) Own.no,
 AV.int IntKind.i64 (↑y : Int)] ∧
 StIs { boxes := [], live := [] } { boxes := [], live := [] } ∧
 y ≤ l.length ∧ l.length - y < l.length - x) ∧
 (List.drop (nat_lit 0) (List.take (↑x_2.snd : Int).toNat (strsA (nmL l x_2.fst))) ≠ [] →
 ((0 : Int) ≤ (↑x_2.fst : Int) ∧ (↑x_2.fst : Int) < (↑(facsL l).length : Int)) ∧
 ∃ (s : List UInt8),
 takeAt PU (nat_lit 9) (facsL l) (↑x_2.fst : Int).toNat (nat_lit 0) = some (AV.str s) ∧
 (nat_lit 1 = nat_lit 1 ∨
 [] ++ List.drop (nat_lit 0) (List.take (↑x_2.snd : Int).toNat (strsA (nmL l x_2.fst))) =
 []) ∧
 (([] ++
 List.drop (nat_lit 0)
 (List.take (↑x_2.snd : Int).toNat (strsA (nmL l x_2.fst)))).length +
 (1 : Nat)) *
 nat_lit 17 ≤
 nat_lit 70368744177664 ∧
 nat_lit 0 +
 (List.drop (nat_lit 0)
 (List.take (↑x_2.snd : Int).toNat (strsA (nmL l x_2.fst)))).length =
 ([] ++
 List.drop (nat_lit 0)
 (List.take (↑x_2.snd : Int).toNat (strsA (nmL l x_2.fst)))).length ∧
 (0 : Int) ≤ (↑x_2.snd : Int) ∧
 ((↑x_2.snd : Int).toNat ≤ (strsA (nmL l x_2.fst)).length ∧
 (strsA (nmL l x_2.fst)).length ≤ (strsA (nmL l x_2.fst)).length) ∧
 (nat_lit 1 = nat_lit 1 ∨ strsA (nmL l x_2.fst) = []) ∧
 (nat_lit 1 = nat_lit 1 ∨
 [] ++
 List.drop (nat_lit 0)
 (List.take (↑x_2.snd : Int).toNat (strsA (nmL l x_2.fst))) ++
 [AV.str s] =
 []) ∧
 (([] ++
 List.drop (nat_lit 0)
 (List.take (↑x_2.snd : Int).toNat (strsA (nmL l x_2.fst))) ++
 [AV.str s]).length +
 (List.drop (↑x_2.snd : Int).toNat
 (List.take (strsA (nmL l x_2.fst)).length
 (strsA (nmL l x_2.fst)))).length) *
 nat_lit 17 ≤
 nat_lit 70368744177664 ∧
 ([] ++
 List.drop (nat_lit 0)
 (List.take (↑x_2.snd : Int).toNat
 (strsA (nmL l x_2.fst)))).length +
 nat_lit 1 =
 ([] ++
 List.drop (nat_lit 0)
 (List.take (↑x_2.snd : Int).toNat (strsA (nmL l x_2.fst))) ++
 [AV.str s]).length ∧
 ∃ (y : Nat),
 ValsAre
 [AV.sl (nat_lit 2) (facsL l) Own.no,
 AV.sl (nat_lit 1)
 ([] ++
 List.drop (nat_lit 0)
 (List.take (↑x_2.snd : Int).toNat
 (strsA (nmL l x_2.fst))) ++
 [AV.str s] ++
 List.drop (↑x_2.snd : Int).toNat
 (List.take (strsA (nmL l x_2.fst)).length
 (strsA (nmL l x_2.fst))))
 Own.no,
 AV.int IntKind.i64
 (IntKind.i64.wrap ((↑x_2.fst : Int) + (1 : Int)))]
 [AV.sl (nat_lit 2) (facsL l) Own.no,
 AV.sl (nat_lit 1) (strsA (nmL l y)) Own.no,
 AV.int IntKind.i64 (↑y : Int)] ∧
 StIs { boxes := [], live := [] } { boxes := [], live := [] } ∧
 y ≤ l.length ∧ l.length - y < l.length - x))) ∧
 (decide ((↑x_1.snd : Int) < (↑(strsA (nmL l x_1.fst)).length : Int)) = false →
 ((decide ((↑x_1.snd : Int) < (↑(strsA (nmL l x_1.fst)).length : Int)) = true →
 ((0 : Int) ≤ (↑x_1.snd : Int) ∧ (↑x_1.snd : Int) < (↑(strsA (nmL l x_1.fst)).length : Int)) ∧
 ∃ (s : List UInt8),
 takeAt PU (nat_lit 9) (strsA (nmL l x_1.fst)) (↑x_1.snd : Int).toNat (nat_lit 0) = some (AV.str s) ∧
 ((0 : Int) ≤ (↑x_1.fst : Int) ∧ (↑x_1.fst : Int) < (↑(facsL l).length : Int)) ∧
 ∃ (s_1 : List UInt8),
 takeAt PU (nat_lit 9) (facsL l) (↑x_1.fst : Int).toNat (nat_lit 0) = some (AV.str s_1) ∧
 ((s == s_1) = true →
 ∃ (y : Nat),
 ValsAre
 [AV.sl (nat_lit 2) (facsL l) Own.no, AV.sl (nat_lit 1) (strsA (nmL l x_1.fst)) Own.no,
 AV.int IntKind.i64 (IntKind.i64.wrap ((↑x_1.fst : Int) + (1 : Int)))]
 [AV.sl (nat_lit 2) (facsL l) Own.no, AV.sl (nat_lit 1) (strsA (nmL l y)) Own.no,
 AV.int IntKind.i64 (↑y : Int)] ∧
 StIs { boxes := [], live := [] } { boxes := [], live := [] } ∧ y ≤ l.length ∧ l.length - y < l.length - x) ∧
 ((s == s_1) = false →
 ∃ (y : Nat × Nat),
 ValsAre
 [AV.sl (nat_lit 2) (facsL l) Own.no, AV.sl (nat_lit 1) (strsA (nmL l x_1.fst)) Own.no,
 AV.int IntKind.i64 (↑x_1.fst : Int), AV.int IntKind.i64 (↑x_1.snd : Int)]
 [AV.sl (nat_lit 2) (facsL l) Own.no, AV.sl (nat_lit 1) (strsA (nmL l y.fst)) Own.no,
 AV.int IntKind.i64 (↑y.fst : Int), AV.int IntKind.i64 (↑y.snd : Int)] ∧
 StIs { boxes := [], live := [] } { boxes := [], live := [] } ∧
 (y.fst < l.length ∧
 y.snd ≤ (nmL l y.fst).length ∧
 (∀ (s : List UInt8), s ∈ List.take y.snd (nmL l y.fst) → s < (l.getD y.fst default).s) ∧
 ∀ (s : List UInt8), s ∈ List.drop y.snd (nmL l y.fst) → (l.getD y.fst default).s < s) ∧
 some (AV.int IntKind.i64 (↑x_1.fst : Int)) = some (AV.int IntKind.i64 (↑y.fst : Int)) ∧
 some (AV.int IntKind.i64 (↑x_1.snd : Int)) = some (AV.int IntKind.i64 (↑y.snd : Int)))) ∧
 (decide ((↑x_1.snd : Int) < (↑(strsA (nmL l x_1.fst)).length : Int)) = false →
 ∃ (y : Nat × Nat),
 ValsAre
 [AV.sl (nat_lit 2) (facsL l) Own.no, AV.sl (nat_lit 1) (strsA (nmL l x_1.fst)) Own.no, AV.int IntKind.i64 (↑x_1.fst : Int),
 AV.int IntKind.i64 (↑x_1.snd : Int)]
 [AV.sl (nat_lit 2) (facsL l) Own.no, AV.sl (nat_lit 1) (strsA (nmL l y.fst)) Own.no, AV.int IntKind.i64 (↑y.fst : Int),
 AV.int IntKind.i64 (↑y.snd : Int)] ∧
 StIs { boxes := [], live := [] } { boxes := [], live := [] } ∧
 (y.fst < l.length ∧
 y.snd ≤ (nmL l y.fst).length ∧
 (∀ (s : List UInt8), s ∈ List.take y.snd (nmL l y.fst) → s < (l.getD y.fst default).s) ∧
 ∀ (s : List UInt8), s ∈ List.drop y.snd (nmL l y.fst) → (l.getD y.fst default).s < s) ∧
 some (AV.int IntKind.i64 (↑x_1.fst : Int)) = some (AV.int IntKind.i64 (↑y.fst : Int)) ∧
 some (AV.int IntKind.i64 (↑x_1.snd : Int)) = some (AV.int IntKind.i64 (↑y.snd : Int)))) ∧
 ∀ (x_2 : Nat × Nat),
 (x_2.fst < l.length ∧
 x_2.snd ≤ (nmL l x_2.fst).length ∧
 (∀ (s : List UInt8), s ∈ List.take x_2.snd (nmL l x_2.fst) → s < (l.getD x_2.fst default).s) ∧
 ∀ (s : List UInt8), s ∈ List.drop x_2.snd (nmL l x_2.fst) → (l.getD x_2.fst default).s < s) →
 some (AV.int IntKind.i64 (↑x_1.fst : Int)) = some (AV.int IntKind.i64 (↑x_2.fst : Int)) ∧
 some (AV.int IntKind.i64 (↑x_1.snd : Int)) = some (AV.int IntKind.i64 (↑x_2.snd : Int)) →
 (0 : Int) ≤ (↑x_2.snd : Int) ∧
 (nat_lit 0 ≤ (↑x_2.snd : Int).toNat ∧ (↑x_2.snd : Int).toNat ≤ (strsA (nmL l x_2.fst)).length) ∧
 (nat_lit 1 = nat_lit 1 ∨ strsA (nmL l x_2.fst) = []) ∧
 (nat_lit 0 = nat_lit 1 ∨ ([] : List AV) = []) ∧
 (nat_lit 0 + (List.drop (nat_lit 0) (List.take (↑x_2.snd : Int).toNat (strsA (nmL l x_2.fst)))).length) * nat_lit 17 ≤
 nat_lit 70368744177664 ∧
 (List.drop (nat_lit 0) (List.take (↑x_2.snd : Int).toNat (strsA (nmL l x_2.fst))) = [] →
 ((0 : Int) ≤ (↑x_2.fst : Int) ∧ (↑x_2.fst : Int) < (↑(facsL l).length : Int)) ∧
 ∃ (s : List UInt8),
 takeAt PU (nat_lit 9) (facsL l) (↑x_2.fst : Int).toNat (nat_lit 0) = some (AV.str s) ∧
 (nat_lit 0 = nat_lit 1 ∨ ([] : List AV) = []) ∧
 (nat_lit 0 + (1 : Nat)) * nat_lit 17 ≤ nat_lit 70368744177664 ∧
 (0 : Int) ≤ (↑x_2.snd : Int) ∧
 ((↑x_2.snd : Int).toNat ≤ (strsA (nmL l x_2.fst)).length ∧
 (strsA (nmL l x_2.fst)).length ≤ (strsA (nmL l x_2.fst)).length) ∧
 (nat_lit 1 = nat_lit 1 ∨ strsA (nmL l x_2.fst) = []) ∧
 (nat_lit 1 = nat_lit 1 ∨ [AV.str s] = []) ∧
 ((1 : Nat) +
 (List.drop (↑x_2.snd : Int).toNat
 (List.take (strsA (nmL l x_2.fst)).length (strsA (nmL l x_2.fst)))).length) *
 nat_lit 17 ≤
 nat_lit 70368744177664 ∧
 nat_lit 1 = (1 : Nat) ∧
 ∃ (y : Nat),
 ValsAre
 [AV.sl (nat_lit 2) (facsL l) Own.no,
 AV.sl (nat_lit 1)
 ([AV.str s] ++
 List.drop (↑x_2.snd : Int).toNat
 (List.take (strsA (nmL l x_2.fst)).length (strsA (nmL l x_2.fst))))
 Own.no,
 AV.int IntKind.i64 (IntKind.i64.wrap ((↑x_2.fst : Int) + (1 : Int)))]
 [AV.sl (nat_lit 2) (facsL l) Own.no, AV.sl (nat_lit 1) (strsA (nmL l y)) Own.no,
 AV.int IntKind.i64 (↑y : Int)] ∧
 StIs { boxes := [], live := [] } { boxes := [], live := [] } ∧
 y ≤ l.length ∧ l.length - y < l.length - x) ∧
 (List.drop (nat_lit 0) (List.take (↑x_2.snd : Int).toNat (strsA (nmL l x_2.fst))) ≠ [] →
 ((0 : Int) ≤ (↑x_2.fst : Int) ∧ (↑x_2.fst : Int) < (↑(facsL l).length : Int)) ∧
 ∃ (s : List UInt8),
 takeAt PU (nat_lit 9) (facsL l) (↑x_2.fst : Int).toNat (nat_lit 0) = some (AV.str s) ∧
 (nat_lit 1 = nat_lit 1 ∨
 [] ++ List.drop (nat_lit 0) (List.take (↑x_2.snd : Int).toNat (strsA (nmL l x_2.fst))) = []) ∧
 (([] ++ List.drop (nat_lit 0) (List.take (↑x_2.snd : Int).toNat (strsA (nmL l x_2.fst)))).length +
 (1 : Nat)) *
 nat_lit 17 ≤
 nat_lit 70368744177664 ∧
 nat_lit 0 + (List.drop (nat_lit 0) (List.take (↑x_2.snd : Int).toNat (strsA (nmL l x_2.fst)))).length =
 ([] ++ List.drop (nat_lit 0) (List.take (↑x_2.snd : Int).toNat (strsA (nmL l x_2.fst)))).length ∧
 (0 : Int) ≤ (↑x_2.snd : Int) ∧
 ((↑x_2.snd : Int).toNat ≤ (strsA (nmL l x_2.fst)).length ∧
 (strsA (nmL l x_2.fst)).length ≤ (strsA (nmL l x_2.fst)).length) ∧
 (nat_lit 1 = nat_lit 1 ∨ strsA (nmL l x_2.fst) = []) ∧
 (nat_lit 1 = nat_lit 1 ∨
 [] ++ List.drop (nat_lit 0) (List.take (↑x_2.snd : Int).toNat (strsA (nmL l x_2.fst))) ++
 [AV.str s] =
 []) ∧
 (([] ++ List.drop (nat_lit 0) (List.take (↑x_2.snd : Int).toNat (strsA (nmL l x_2.fst))) ++
 [AV.str s]).length +
 (List.drop (↑x_2.snd : Int).toNat
 (List.take (strsA (nmL l x_2.fst)).length (strsA (nmL l x_2.fst)))).length) *
 nat_lit 17 ≤
 nat_lit 70368744177664 ∧
 ([] ++
 List.drop (nat_lit 0)
 (List.take (↑x_2.snd : Int).toNat (strsA (nmL l x_2.fst)))).length +
 nat_lit 1 =
 ([] ++ List.drop (nat_lit 0) (List.take (↑x_2.snd : Int).toNat (strsA (nmL l x_2.fst))) ++
 [AV.str s]).length ∧
 ∃ (y : Nat),
 ValsAre
 [AV.sl (nat_lit 2) (facsL l) Own.no,
 AV.sl (nat_lit 1)
 ([] ++
 List.drop (nat_lit 0)
 (List.take (↑x_2.snd : Int).toNat (strsA (nmL l x_2.fst))) ++
 [AV.str s] ++
 List.drop (↑x_2.snd : Int).toNat
 (List.take (strsA (nmL l x_2.fst)).length (strsA (nmL l x_2.fst))))
 Own.no,
 AV.int IntKind.i64 (IntKind.i64.wrap ((↑x_2.fst : Int) + (1 : Int)))]
 [AV.sl (nat_lit 2) (facsL l) Own.no, AV.sl (nat_lit 1) (strsA (nmL l y)) Own.no,
 AV.int IntKind.i64 (↑y : Int)] ∧
 StIs { boxes := [], live := [] } { boxes := [], live := [] } ∧
 y ≤ l.length ∧ l.length - y < l.length - x))) ∧
        (decide ((↑x : Int) < (↑(facsL l).length : Int)) = false →
 RetLax (AV.sl (nat_lit 1) (strsA (nmL l x)) Own.no) (AV.sl (nat_lit 1) (strsA (namesOf l)) Own.no, []))) := by kernel_rfl
theorem w35 (m : Int) (l : List Fac) (s : List UInt8) : (pureW PU (GU m) XE (tbl [(51, s51), (52, s52), (53, s53), (36, s36)]) (itbl []) (a35 l s) [] 35 [.sl 2 (facsL l) .no, .str s] (expR l s)) =
(∃ (n : Int),
  ∃ (n_1 : Int),
    CallIs (some (AV.agg [AV.int IntKind.i64 (0 : Int), AV.int IntKind.u64 (0 : Int)], [])) (AV.agg [AV.int IntKind.i64 n, AV.int IntKind.u64 n_1]) [] ∧
      (∃ (y : Nat),
 ValsAre [AV.sl (nat_lit 2) (facsL l) Own.no, AV.str s, AV.ptr (nat_lit 0) (nat_lit 0), AV.int IntKind.i64 (0 : Int)]
 [AV.sl (nat_lit 2) (facsL l) Own.no, AV.str s, AV.ptr (nat_lit 0) (nat_lit 0), AV.int IntKind.i64 (↑y : Int)] ∧
 StIs { boxes := [some [AV.int IntKind.i64 n, AV.int IntKind.u64 n_1]], live := [] }
 { boxes := [some [AV.int IntKind.i64 (IntKind.i64.wrap (sumN (List.take y l) s / (18446744073709551616 : Int))), AV.int IntKind.u64 (sumN (List.take y l) s % (18446744073709551616 : Int))]], live := [] } ∧
 y ≤ l.length ∧ True) ∧
        ∀ (x : Nat),
 x ≤ l.length →
 (decide ((↑x : Int) < (↑(facsL l).length : Int)) = true →
 ((0 : Int) ≤ (↑x : Int) ∧ (↑x : Int) < (↑(facsL l).length : Int)) ∧
 ∃ (s_1 : List UInt8),
 takeAt PU (nat_lit 9) (facsL l) (↑x : Int).toNat (nat_lit 0) = some (AV.str s_1) ∧
 ((s_1 == s) = true →
 ((0 : Int) ≤ (↑x : Int) ∧ (↑x : Int) < (↑(facsL l).length : Int)) ∧
 ∃ (n : Int),
 takeAt PU (nat_lit 3) (facsL l) (↑x : Int).toNat (nat_lit 1) = some (AV.int IntKind.i64 n) ∧
 ∃ (n_2 : Int),
 ∃ (n_3 : Int),
 CallIs
 (tbl [(nat_lit 51, s51), (nat_lit 52, s52), (nat_lit 53, s53), (nat_lit 36, s36)] (nat_lit 51) [AV.int IntKind.i64 n])
 (AV.agg [AV.int IntKind.i64 n_2, AV.int IntKind.u64 n_3]) [] ∧
 ∃ (n : Int),
 ∃ (n_4 : Int),
 CallIs
 (tbl [(nat_lit 51, s51), (nat_lit 52, s52), (nat_lit 53, s53), (nat_lit 36, s36)] (nat_lit 52)
 [AV.agg
 [AV.int IntKind.i64 (IntKind.i64.wrap (sumN (List.take x l) s / (18446744073709551616 : Int))),
 AV.int IntKind.u64 (sumN (List.take x l) s % (18446744073709551616 : Int))],
 AV.agg [AV.int IntKind.i64 n_2, AV.int IntKind.u64 n_3]])
 (AV.agg [AV.int IntKind.i64 n, AV.int IntKind.u64 n_4]) [] ∧
 ∃ (y : Nat),
 ValsAre
 [AV.sl (nat_lit 2) (facsL l) Own.no, AV.str s, AV.ptr (nat_lit 0) (nat_lit 0),
 AV.int IntKind.i64 (IntKind.i64.wrap ((↑x : Int) + (1 : Int)))]
 [AV.sl (nat_lit 2) (facsL l) Own.no, AV.str s, AV.ptr (nat_lit 0) (nat_lit 0),
 AV.int IntKind.i64 (↑y : Int)] ∧
 StIs { boxes := [some [AV.int IntKind.i64 n, AV.int IntKind.u64 n_4]], live := [] }
 { boxes := [some [AV.int IntKind.i64 (IntKind.i64.wrap (sumN (List.take y l) s / (18446744073709551616 : Int))), AV.int IntKind.u64 (sumN (List.take y l) s % (18446744073709551616 : Int))]], live := [] } ∧
 y ≤ l.length ∧ l.length - y < l.length - x) ∧
 ((s_1 == s) = false →
 ∃ (y : Nat),
 ValsAre
 [AV.sl (nat_lit 2) (facsL l) Own.no, AV.str s, AV.ptr (nat_lit 0) (nat_lit 0),
 AV.int IntKind.i64 (IntKind.i64.wrap ((↑x : Int) + (1 : Int)))]
 [AV.sl (nat_lit 2) (facsL l) Own.no, AV.str s, AV.ptr (nat_lit 0) (nat_lit 0), AV.int IntKind.i64 (↑y : Int)] ∧
 StIs
 { boxes := [some [AV.int IntKind.i64 (IntKind.i64.wrap (sumN (List.take x l) s / (18446744073709551616 : Int))), AV.int IntKind.u64 (sumN (List.take x l) s % (18446744073709551616 : Int))]], live := [] }
 { boxes := [some [AV.int IntKind.i64 (IntKind.i64.wrap (sumN (List.take y l) s / (18446744073709551616 : Int))), AV.int IntKind.u64 (sumN (List.take y l) s % (18446744073709551616 : Int))]], live := [] } ∧
 y ≤ l.length ∧ l.length - y < l.length - x)) ∧
 (decide ((↑x : Int) < (↑(facsL l).length : Int)) = false →
 ∃ (n : Int),
 ∃ (b : Bool),
 CallIs
 (tbl [(nat_lit 51, s51), (nat_lit 52, s52), (nat_lit 53, s53), (nat_lit 36, s36)] (nat_lit 53)
 [AV.agg
 [AV.int IntKind.i64 (IntKind.i64.wrap (sumN (List.take x l) s / (18446744073709551616 : Int))),
 AV.int IntKind.u64 (sumN (List.take x l) s % (18446744073709551616 : Int))],
 AV.int IntKind.i64 (1 : Int)])
 (AV.tup [AV.int IntKind.i64 n, AV.bool b]) [] ∧
 (b = true →
 ∃ (b : Bool),
 CallIs (some (AV.bool (farB n), [])) (AV.bool b) [] ∧
 (b = true →
 RetIs (AV.tup [AV.int IntKind.i64 (0 : Int), AV.bool false]) []
 (AV.tup [AV.int IntKind.i64 (if farB (sumN l s) = true then (0 : Int) else sumN l s), AV.bool !farB (sumN l s)], [])) ∧
 (b = false →
 RetIs (AV.tup [AV.int IntKind.i64 n, AV.bool true]) []
 (AV.tup [AV.int IntKind.i64 (if farB (sumN l s) = true then (0 : Int) else sumN l s), AV.bool !farB (sumN l s)], []))) ∧
 (b = false →
 RetIs (AV.tup [AV.int IntKind.i64 (0 : Int), AV.bool false]) []
 (AV.tup [AV.int IntKind.i64 (if farB (sumN l s) = true then (0 : Int) else sumN l s), AV.bool !farB (sumN l s)], [])))) := by kernel_rfl
theorem w12 (m : Int) (l : List Fac) : (laxW PU (GU m) XE (tbl [(33, s33), (34, s34), (35, s35)]) (itbl []) (a12 l) [] 12 [.sl 2 (facsL l) .no] (facR (normP l))) =
((∃ (y : Nat),
    ValsAre [AV.sl (nat_lit 2) (facsL l) Own.no, AV.int IntKind.i64 (0 : Int)] [AV.sl (nat_lit 2) (facsL l) Own.no, AV.int IntKind.i64 (↑y : Int)] ∧
      StIs { boxes := [], live := [] } { boxes := [], live := [] } ∧ (y ≤ l.length ∧ ((List.take y l).all fun (f : Fac) => wordB f.s) = true) ∧ True) ∧
  ∀ (x : Nat),
    x ≤ l.length ∧ ((List.take x l).all fun (f : Fac) => wordB f.s) = true →
      (decide ((↑x : Int) < (↑(facsL l).length : Int)) = true →
 ((0 : Int) ≤ (↑x : Int) ∧ (↑x : Int) < (↑(facsL l).length : Int)) ∧
 ∃ (s : List UInt8),
 takeAt PU (nat_lit 9) (facsL l) (↑x : Int).toNat (nat_lit 0) = some (AV.str s) ∧
 ∃ (b : Bool),
 CallIs (some (AV.bool (wordB s), [])) (AV.bool b) [] ∧
 (b = true →
 ∃ (y : Nat),
 ValsAre [AV.sl (nat_lit 2) (facsL l) Own.no, AV.int IntKind.i64 (IntKind.i64.wrap ((↑x : Int) + (1 : Int)))]
 [AV.sl (nat_lit 2) (facsL l) Own.no, AV.int IntKind.i64 (↑y : Int)] ∧
 StIs { boxes := [], live := [] } { boxes := [], live := [] } ∧
 (y ≤ l.length ∧ ((List.take y l).all fun (f : Fac) => wordB f.s) = true) ∧ l.length - y < l.length - x) ∧
 (b = false →
 RetLax (AV.tup [AV.sl (nat_lit 0) [] Own.nil, AV.int IntKind.i64 (1 : Int)])
 (AV.tup [AV.sl (nat_lit 2) (facsL (normP l).fst) Own.no, AV.int IntKind.i64 (normP l).snd], []))) ∧
        (decide ((↑x : Int) < (↑(facsL l).length : Int)) = false →
 ∃ (es : List AV),
 CallIs (tbl [(nat_lit 33, s33), (nat_lit 34, s34), (nat_lit 35, s35)] (nat_lit 34) [AV.sl (nat_lit 2) (facsL l) Own.no])
 (AV.sl (nat_lit 1) es Own.no) [] ∧
 (∃ (y : Nat),
 ValsAre
 [AV.sl (nat_lit 2) (facsL l) Own.no, AV.sl (nat_lit 1) es Own.no, AV.sl (nat_lit 2) [] (Own.tok (nat_lit 0)),
 AV.int IntKind.i64 (0 : Int)]
 [AV.sl (nat_lit 2) (facsL l) Own.no, AV.sl (nat_lit 1) (strsA (namesOf l)) Own.no,
 AV.sl (nat_lit 2) (facsL (outR l y)) (Own.tok (nat_lit 0)), AV.int IntKind.i64 (↑y : Int)] ∧
 StIs { boxes := [], live := [(nat_lit 0, nat_lit 37)] } { boxes := [], live := [((outR l y).length, nat_lit 37)] } ∧
 (y ≤ (namesOf l).length ∧ ((List.take y (namesOf l)).any fun (s : List UInt8) => farB (getS (sumsL l []) s)) = false) ∧ True) ∧
 ∀ (x : Nat),
 x ≤ (namesOf l).length ∧ ((List.take x (namesOf l)).any fun (s : List UInt8) => farB (getS (sumsL l []) s)) = false →
 (decide ((↑x : Int) < (↑(strsA (namesOf l)).length : Int)) = true →
 ((0 : Int) ≤ (↑x : Int) ∧ (↑x : Int) < (↑(strsA (namesOf l)).length : Int)) ∧
 ∃ (s : List UInt8),
 takeAt PU (nat_lit 9) (strsA (namesOf l)) (↑x : Int).toNat (nat_lit 0) = some (AV.str s) ∧
 ∃ (n : Int),
 ∃ (b : Bool),
 CallIs
 (tbl [(nat_lit 33, s33), (nat_lit 34, s34), (nat_lit 35, s35)] (nat_lit 35)
 [AV.sl (nat_lit 2) (facsL l) Own.no, AV.str s])
 (AV.tup [AV.int IntKind.i64 n, AV.bool b]) [] ∧
 (b = true →
 ((n != (0 : Int)) = true →
 ((0 : Int) ≤ (↑x : Int) ∧ (↑x : Int) < (↑(strsA (namesOf l)).length : Int)) ∧
 ∃ (s : List UInt8),
 takeAt PU (nat_lit 9) (strsA (namesOf l)) (↑x : Int).toNat (nat_lit 0) = some (AV.str s) ∧
 (nat_lit 2 = nat_lit 2 ∨ facsL (outR l x) = []) ∧
 ((facsL (outR l x)).length + (1 : Nat)) * nat_lit 25 ≤ nat_lit 70368744177664 ∧
 (outR l x).length = (facsL (outR l x)).length ∧
 ∃ (y : Nat),
 ValsAre
 [AV.sl (nat_lit 2) (facsL l) Own.no, AV.sl (nat_lit 1) (strsA (namesOf l)) Own.no,
 AV.sl (nat_lit 2) (facsL (outR l x) ++ [AV.agg [AV.str s, AV.int IntKind.i64 n]])
 (Own.tok (nat_lit 0)),
 AV.int IntKind.i64 (IntKind.i64.wrap ((↑x : Int) + (1 : Int)))]
 [AV.sl (nat_lit 2) (facsL l) Own.no, AV.sl (nat_lit 1) (strsA (namesOf l)) Own.no,
 AV.sl (nat_lit 2) (facsL (outR l y)) (Own.tok (nat_lit 0)), AV.int IntKind.i64 (↑y : Int)] ∧
 StIs { boxes := [], live := [((facsL (outR l x)).length + nat_lit 1, nat_lit 37)] }
 { boxes := [], live := [((outR l y).length, nat_lit 37)] } ∧
 (y ≤ (namesOf l).length ∧
 ((List.take y (namesOf l)).any fun (s : List UInt8) => farB (getS (sumsL l []) s)) = false) ∧
 (namesOf l).length - y < (namesOf l).length - x) ∧
 ((n != (0 : Int)) = false →
 ∃ (y : Nat),
 ValsAre
 [AV.sl (nat_lit 2) (facsL l) Own.no, AV.sl (nat_lit 1) (strsA (namesOf l)) Own.no,
 AV.sl (nat_lit 2) (facsL (outR l x)) (Own.tok (nat_lit 0)),
 AV.int IntKind.i64 (IntKind.i64.wrap ((↑x : Int) + (1 : Int)))]
 [AV.sl (nat_lit 2) (facsL l) Own.no, AV.sl (nat_lit 1) (strsA (namesOf l)) Own.no,
 AV.sl (nat_lit 2) (facsL (outR l y)) (Own.tok (nat_lit 0)), AV.int IntKind.i64 (↑y : Int)] ∧
 StIs { boxes := [], live := [((outR l x).length, nat_lit 37)] }
 { boxes := [], live := [((outR l y).length, nat_lit 37)] } ∧
 (y ≤ (namesOf l).length ∧
 ((List.take y (namesOf l)).any fun (s : List UInt8) => farB (getS (sumsL l []) s)) = false) ∧
 (namesOf l).length - y < (namesOf l).length - x)) ∧
 (b = false →
 RetLax (AV.tup [AV.sl (nat_lit 0) [] Own.nil, AV.int IntKind.i64 (70 : Int)])
 (AV.tup [AV.sl (nat_lit 2) (facsL (normP l).fst) Own.no, AV.int IntKind.i64 (normP l).snd], []))) ∧
 (decide ((↑x : Int) < (↑(strsA (namesOf l)).length : Int)) = false →
 (decide ((↑(facsL (outR l x)).length : Int) > (4 : Int)) = true →
 RetLax (AV.tup [AV.sl (nat_lit 0) [] Own.nil, AV.int IntKind.i64 (2 : Int)])
 (AV.tup [AV.sl (nat_lit 2) (facsL (normP l).fst) Own.no, AV.int IntKind.i64 (normP l).snd], [])) ∧
 (decide ((↑(facsL (outR l x)).length : Int) > (4 : Int)) = false →
 RetLax (AV.tup [AV.sl (nat_lit 2) (facsL (outR l x)) (Own.tok (nat_lit 0)), AV.int IntKind.i64 (0 : Int)])
 (AV.tup [AV.sl (nat_lit 2) (facsL (normP l).fst) Own.no, AV.int IntKind.i64 (normP l).snd], []))))) := by kernel_rfl
theorem w38 (m : Int) (l : List Fac) : (laxW PU (GU m) XE (tbl []) (itbl []) (a38 l) [] 38 [.sl 2 (facsL l) .no] (.sl 2 (facsL (timesL l (-1))) .no, [])) =
((∃ (y : Nat),
    ValsAre [AV.sl (nat_lit 2) (facsL l) Own.no, AV.sl (nat_lit 2) [] (Own.tok (nat_lit 0)), AV.int IntKind.i64 (0 : Int)]
        [AV.sl (nat_lit 2) (facsL l) Own.no, AV.sl (nat_lit 2) (facsL (timesL (List.take y l) (-1 : Int))) (Own.tok (nat_lit 0)),
 AV.int IntKind.i64 (↑y : Int)] ∧
      StIs { boxes := [], live := [(nat_lit 0, nat_lit 37)] } { boxes := [], live := [((timesL (List.take y l) (-1 : Int)).length, nat_lit 37)] } ∧
        y ≤ l.length ∧ True) ∧
  ∀ (x : Nat),
    x ≤ l.length →
      (decide ((↑x : Int) < (↑(facsL l).length : Int)) = true →
 ((0 : Int) ≤ (↑x : Int) ∧ (↑x : Int) < (↑(facsL l).length : Int)) ∧
 ∃ (s : List UInt8),
 takeAt PU (nat_lit 9) (facsL l) (↑x : Int).toNat (nat_lit 0) = some (AV.str s) ∧
 ((0 : Int) ≤ (↑x : Int) ∧ (↑x : Int) < (↑(facsL l).length : Int)) ∧
 ∃ (n : Int),
 takeAt PU (nat_lit 3) (facsL l) (↑x : Int).toNat (nat_lit 1) = some (AV.int IntKind.i64 n) ∧
 (nat_lit 2 = nat_lit 2 ∨ facsL (timesL (List.take x l) (-1 : Int)) = []) ∧
 ((facsL (timesL (List.take x l) (-1 : Int))).length + (1 : Nat)) * nat_lit 25 ≤ nat_lit 70368744177664 ∧
 (timesL (List.take x l) (-1 : Int)).length = (facsL (timesL (List.take x l) (-1 : Int))).length ∧
 ∃ (y : Nat),
 ValsAre
 [AV.sl (nat_lit 2) (facsL l) Own.no,
 AV.sl (nat_lit 2)
 (facsL (timesL (List.take x l) (-1 : Int)) ++ [AV.agg [AV.str s, AV.int IntKind.i64 (IntKind.i64.wrap ((0 : Int) - n))]])
 (Own.tok (nat_lit 0)),
 AV.int IntKind.i64 (IntKind.i64.wrap ((↑x : Int) + (1 : Int)))]
 [AV.sl (nat_lit 2) (facsL l) Own.no, AV.sl (nat_lit 2) (facsL (timesL (List.take y l) (-1 : Int))) (Own.tok (nat_lit 0)),
 AV.int IntKind.i64 (↑y : Int)] ∧
 StIs { boxes := [], live := [((facsL (timesL (List.take x l) (-1 : Int))).length + nat_lit 1, nat_lit 37)] }
 { boxes := [], live := [((timesL (List.take y l) (-1 : Int)).length, nat_lit 37)] } ∧
 y ≤ l.length ∧ l.length - y < l.length - x) ∧
        (decide ((↑x : Int) < (↑(facsL l).length : Int)) = false →
 RetLax (AV.sl (nat_lit 2) (facsL (timesL (List.take x l) (-1 : Int))) (Own.tok (nat_lit 0)))
 (AV.sl (nat_lit 2) (facsL (timesL l (-1 : Int))) Own.no, []))) := by kernel_rfl
theorem w17 (m : Int) (l r : List Fac) : (laxW PU (GU m) XE (tbl [(14, s14), (12, s12)]) (itbl []) nAn [] 17 [.sl 2 (facsL l) .no, .sl 2 (facsL r) .no] (facR (prodP l r 1))) =
(∃ (n : Int),
  CallIs (tbl [(nat_lit 14, s14), (nat_lit 12, s12)] (nat_lit 14) [AV.sl (nat_lit 2) (facsL l) Own.no]) (AV.int IntKind.i64 n) [] ∧
    ((n != (0 : Int)) = true →
        RetLax (AV.tup [AV.sl (nat_lit 0) [] Own.nil, AV.int IntKind.i64 n])
 (AV.tup [AV.sl (nat_lit 2) (facsL (prodP l r (1 : Int)).fst) Own.no, AV.int IntKind.i64 (prodP l r (1 : Int)).snd], [])) ∧
      ((n != (0 : Int)) = false →
        ∃ (n : Int),
 CallIs (tbl [(nat_lit 14, s14), (nat_lit 12, s12)] (nat_lit 14) [AV.sl (nat_lit 2) (facsL r) Own.no]) (AV.int IntKind.i64 n) [] ∧
 ((n != (0 : Int)) = true →
 RetLax (AV.tup [AV.sl (nat_lit 0) [] Own.nil, AV.int IntKind.i64 n])
 (AV.tup [AV.sl (nat_lit 2) (facsL (prodP l r (1 : Int)).fst) Own.no, AV.int IntKind.i64 (prodP l r (1 : Int)).snd], [])) ∧
 ((n != (0 : Int)) = false →
 (nat_lit 0 = nat_lit 2 ∨ ([] : List AV) = []) ∧
 (nat_lit 0 + (facsL l).length) * nat_lit 25 ≤ nat_lit 70368744177664 ∧
 (facsL l = [] →
 (nat_lit 0 = nat_lit 2 ∨ ([] : List AV) = []) ∧
 (nat_lit 0 + (facsL r).length) * nat_lit 25 ≤ nat_lit 70368744177664 ∧
 (facsL r = [] →
 ∃ (es : List AV),
 ∃ (n : Int),
 CallIs (some (AV.tup [AV.sl (nat_lit 2) [] Own.no, AV.int IntKind.i64 (0 : Int)], []))
 (AV.tup [AV.sl (nat_lit 2) es Own.no, AV.int IntKind.i64 n]) [] ∧
 RetLax (AV.tup [AV.sl (nat_lit 2) es Own.no, AV.int IntKind.i64 n])
 (AV.tup [AV.sl (nat_lit 2) (facsL (prodP l r (1 : Int)).fst) Own.no, AV.int IntKind.i64 (prodP l r (1 : Int)).snd],
 [])) ∧
 (facsL r ≠ [] →
 ∃ (es : List AV),
 ∃ (n : Int),
 CallIs (tbl [(nat_lit 14, s14), (nat_lit 12, s12)] (nat_lit 12) [AV.sl (nat_lit 2) ([] ++ facsL r) Own.no])
 (AV.tup [AV.sl (nat_lit 2) es Own.no, AV.int IntKind.i64 n]) [] ∧
 RetLax (AV.tup [AV.sl (nat_lit 2) es Own.no, AV.int IntKind.i64 n])
 (AV.tup [AV.sl (nat_lit 2) (facsL (prodP l r (1 : Int)).fst) Own.no, AV.int IntKind.i64 (prodP l r (1 : Int)).snd],
 []))) ∧
 (facsL l ≠ [] →
 (nat_lit 2 = nat_lit 2 ∨ [] ++ facsL l = []) ∧
 (([] ++ facsL l).length + (facsL r).length) * nat_lit 25 ≤ nat_lit 70368744177664 ∧
 nat_lit 0 + (facsL l).length = ([] ++ facsL l).length ∧
 ∃ (es : List AV),
 ∃ (n : Int),
 CallIs (tbl [(nat_lit 14, s14), (nat_lit 12, s12)] (nat_lit 12) [AV.sl (nat_lit 2) ([] ++ facsL l ++ facsL r) Own.no])
 (AV.tup [AV.sl (nat_lit 2) es Own.no, AV.int IntKind.i64 n]) [] ∧
 RetLax (AV.tup [AV.sl (nat_lit 2) es Own.no, AV.int IntKind.i64 n])
 (AV.tup [AV.sl (nat_lit 2) (facsL (prodP l r (1 : Int)).fst) Own.no, AV.int IntKind.i64 (prodP l r (1 : Int)).snd], []))))) := by kernel_rfl
theorem w19 (m : Int) (l r : List Fac) : (laxW PU (GU m) XE (tbl [(14, s14), (38, s38), (17, s17)]) (itbl []) nAn [] 19 [.sl 2 (facsL l) .no, .sl 2 (facsL r) .no] (facR (prodP l r (-1)))) =
(∃ (n : Int),
  CallIs (tbl [(nat_lit 14, s14), (nat_lit 38, s38), (nat_lit 17, s17)] (nat_lit 14) [AV.sl (nat_lit 2) (facsL l) Own.no]) (AV.int IntKind.i64 n) [] ∧
    ((n != (0 : Int)) = true →
        RetLax (AV.tup [AV.sl (nat_lit 0) [] Own.nil, AV.int IntKind.i64 n])
 (AV.tup [AV.sl (nat_lit 2) (facsL (prodP l r (-1 : Int)).fst) Own.no, AV.int IntKind.i64 (prodP l r (-1 : Int)).snd], [])) ∧
      ((n != (0 : Int)) = false →
        ∃ (n : Int),
 CallIs (tbl [(nat_lit 14, s14), (nat_lit 38, s38), (nat_lit 17, s17)] (nat_lit 14) [AV.sl (nat_lit 2) (facsL r) Own.no]) (AV.int IntKind.i64 n) [] ∧
 ((n != (0 : Int)) = true →
 RetLax (AV.tup [AV.sl (nat_lit 0) [] Own.nil, AV.int IntKind.i64 n])
 (AV.tup [AV.sl (nat_lit 2) (facsL (prodP l r (-1 : Int)).fst) Own.no, AV.int IntKind.i64 (prodP l r (-1 : Int)).snd], [])) ∧
 ((n != (0 : Int)) = false →
 ∃ (es : List AV),
 CallIs (tbl [(nat_lit 14, s14), (nat_lit 38, s38), (nat_lit 17, s17)] (nat_lit 38) [AV.sl (nat_lit 2) (facsL r) Own.no])
 (AV.sl (nat_lit 2) es Own.no) [] ∧
 ∃ (es_1 : List AV),
 ∃ (n : Int),
 CallIs
 (tbl [(nat_lit 14, s14), (nat_lit 38, s38), (nat_lit 17, s17)] (nat_lit 17)
 [AV.sl (nat_lit 2) (facsL l) Own.no, AV.sl (nat_lit 2) es Own.no])
 (AV.tup [AV.sl (nat_lit 2) es_1 Own.no, AV.int IntKind.i64 n]) [] ∧
 RetLax (AV.tup [AV.sl (nat_lit 2) es_1 Own.no, AV.int IntKind.i64 n])
 (AV.tup [AV.sl (nat_lit 2) (facsL (prodP l r (-1 : Int)).fst) Own.no, AV.int IntKind.i64 (prodP l r (-1 : Int)).snd], [])))) := by kernel_rfl
theorem w15 (m : Int) (l r : List Fac) : (pureW PU (GU m) XE (tbl []) (itbl []) (a15 l r) [] 15 [.sl 2 (facsL l) .no, .sl 2 (facsL r) .no] (.bool (decide (l = r)), [])) =
((((↑(facsL l).length : Int) != (↑(facsL r).length : Int)) = true → RetIs (AV.bool false) [] (AV.bool (decide (l = r)), [])) ∧
  (((↑(facsL l).length : Int) != (↑(facsL r).length : Int)) = false →
    (∃ (y : Nat),
        ValsAre [AV.sl (nat_lit 2) (facsL l) Own.no, AV.sl (nat_lit 2) (facsL r) Own.no, AV.int IntKind.i64 (0 : Int)]
 [AV.sl (nat_lit 2) (facsL l) Own.no, AV.sl (nat_lit 2) (facsL r) Own.no, AV.int IntKind.i64 (↑y : Int)] ∧
 StIs { boxes := [], live := [] } { boxes := [], live := [] } ∧ (y ≤ l.length ∧ l.length = r.length ∧ List.take y l = List.take y r) ∧ True) ∧
      ∀ (x : Nat),
        x ≤ l.length ∧ l.length = r.length ∧ List.take x l = List.take x r →
 (decide ((↑x : Int) < (↑(facsL l).length : Int)) = true →
 ((0 : Int) ≤ (↑x : Int) ∧ (↑x : Int) < (↑(facsL l).length : Int)) ∧
 ∃ (s : List UInt8),
 ∃ (n : Int),
 takeAt PU (nat_lit 37) (facsL l) (↑x : Int).toNat (nat_lit 0) = some (AV.agg [AV.str s, AV.int IntKind.i64 n]) ∧
 ((0 : Int) ≤ (↑x : Int) ∧ (↑x : Int) < (↑(facsL r).length : Int)) ∧
 ∃ (s_1 : List UInt8),
 ∃ (n_1 : Int),
 takeAt PU (nat_lit 37) (facsL r) (↑x : Int).toNat (nat_lit 0) = some (AV.agg [AV.str s_1, AV.int IntKind.i64 n_1]) ∧
 ((!(s == s_1 && (n == n_1 && true))) = true → RetIs (AV.bool false) [] (AV.bool (decide (l = r)), [])) ∧
 ((!(s == s_1 && (n == n_1 && true))) = false →
 ∃ (y : Nat),
 ValsAre
 [AV.sl (nat_lit 2) (facsL l) Own.no, AV.sl (nat_lit 2) (facsL r) Own.no,
 AV.int IntKind.i64 (IntKind.i64.wrap ((↑x : Int) + (1 : Int)))]
 [AV.sl (nat_lit 2) (facsL l) Own.no, AV.sl (nat_lit 2) (facsL r) Own.no, AV.int IntKind.i64 (↑y : Int)] ∧
 StIs { boxes := [], live := [] } { boxes := [], live := [] } ∧
 (y ≤ l.length ∧ l.length = r.length ∧ List.take y l = List.take y r) ∧ l.length - y < l.length - x)) ∧
 (decide ((↑x : Int) < (↑(facsL l).length : Int)) = false → RetIs (AV.bool true) [] (AV.bool (decide (l = r)), [])))) := by kernel_rfl
theorem w3 (m : Int) (l : List Fac) : (pureW PU (GU m) XE (tbl [(10, s10), (11, s11), (12, s12), (13, s13), (14, s14), (15, s15)]) (itbl []) nAn [] 3 [.sl 2 (facsL l) .no] (.bool true, [])) =
(∃ (b : Bool),
  CallIs (some (AV.bool true, [])) (AV.bool b) [] ∧
    (b = true →
        ∃ (es : List AV),
 ∃ (n : Int),
 CallIs
 (tbl [(nat_lit 10, s10), (nat_lit 11, s11), (nat_lit 12, s12), (nat_lit 13, s13), (nat_lit 14, s14), (nat_lit 15, s15)] (nat_lit 11)
 [AV.sl (nat_lit 2) (facsL l) Own.no])
 (AV.tup [AV.sl (nat_lit 2) es Own.no, AV.int IntKind.i64 n]) [] ∧
 ∃ (es_1 : List AV),
 ∃ (n_1 : Int),
 CallIs
 (tbl [(nat_lit 10, s10), (nat_lit 11, s11), (nat_lit 12, s12), (nat_lit 13, s13), (nat_lit 14, s14), (nat_lit 15, s15)] (nat_lit 12)
 [AV.sl (nat_lit 2) (facsL l) Own.no])
 (AV.tup [AV.sl (nat_lit 2) es_1 Own.no, AV.int IntKind.i64 n_1]) [] ∧
 ∃ (n_2 : Int),
 CallIs
 (tbl [(nat_lit 10, s10), (nat_lit 11, s11), (nat_lit 12, s12), (nat_lit 13, s13), (nat_lit 14, s14), (nat_lit 15, s15)] (nat_lit 13)
 [AV.sl (nat_lit 2) (facsL l) Own.no])
 (AV.int IntKind.i64 n_2) [] ∧
 ∃ (n_3 : Int),
 CallIs
 (tbl [(nat_lit 10, s10), (nat_lit 11, s11), (nat_lit 12, s12), (nat_lit 13, s13), (nat_lit 14, s14), (nat_lit 15, s15)]
 (nat_lit 14) [AV.sl (nat_lit 2) (facsL l) Own.no])
 (AV.int IntKind.i64 n_3) [] ∧
 ((n_2 == n_3) = true →
 ((n == n_1) = true →
 ∃ (b : Bool),
 CallIs
 (tbl
 [(nat_lit 10, s10), (nat_lit 11, s11), (nat_lit 12, s12), (nat_lit 13, s13), (nat_lit 14, s14), (nat_lit 15, s15)]
 (nat_lit 15) [AV.sl (nat_lit 2) es Own.no, AV.sl (nat_lit 2) es_1 Own.no])
 (AV.bool b) [] ∧
 (b = true → RetIs (AV.bool true) [] (AV.bool true, [])) ∧ (b = false → RetIs (AV.bool false) [] (AV.bool true, []))) ∧
 ((n == n_1) = false → RetIs (AV.bool false) [] (AV.bool true, []))) ∧
 ((n_2 == n_3) = false → RetIs (AV.bool false) [] (AV.bool true, []))) ∧
      (b = false →
        ∃ (es : List AV),
 ∃ (n : Int),
 CallIs
 (tbl [(nat_lit 10, s10), (nat_lit 11, s11), (nat_lit 12, s12), (nat_lit 13, s13), (nat_lit 14, s14), (nat_lit 15, s15)] (nat_lit 11)
 [AV.sl (nat_lit 2) (facsL l) Own.no])
 (AV.tup [AV.sl (nat_lit 2) es Own.no, AV.int IntKind.i64 n]) [] ∧
 ∃ (es : List AV),
 ∃ (n : Int),
 CallIs
 (tbl [(nat_lit 10, s10), (nat_lit 11, s11), (nat_lit 12, s12), (nat_lit 13, s13), (nat_lit 14, s14), (nat_lit 15, s15)] (nat_lit 12)
 [AV.sl (nat_lit 2) (facsL l) Own.no])
 (AV.tup [AV.sl (nat_lit 2) es Own.no, AV.int IntKind.i64 n]) [] ∧
 RetIs (AV.bool false) [] (AV.bool true, []))) := by kernel_rfl
theorem w4 (m : Int) (l r : List Fac) : (pureW PU (GU m) XE (tbl [(10, s10), (16, s16), (17, s17), (18, s18), (19, s19), (15, s15), (20, s39)]) (itbl []) nAn [] 4 [.sl 2 (facsL l) .no, .sl 2 (facsL r) .no] (.bool true, [])) =
(∃ (b : Bool),
  CallIs (some (AV.bool true, [])) (AV.bool b) [] ∧
    (b = true →
        ∃ (es : List AV),
 ∃ (n : Int),
 CallIs
 (tbl [(nat_lit 10, s10), (nat_lit 16, s16), (nat_lit 17, s17), (nat_lit 18, s18), (nat_lit 19, s19), (nat_lit 15, s15), (nat_lit 20, s39)]
 (nat_lit 16) [AV.sl (nat_lit 2) (facsL l) Own.no, AV.sl (nat_lit 2) (facsL r) Own.no])
 (AV.tup [AV.sl (nat_lit 2) es Own.no, AV.int IntKind.i64 n]) [] ∧
 ∃ (es_1 : List AV),
 ∃ (n_1 : Int),
 CallIs
 (tbl [(nat_lit 10, s10), (nat_lit 16, s16), (nat_lit 17, s17), (nat_lit 18, s18), (nat_lit 19, s19), (nat_lit 15, s15), (nat_lit 20, s39)]
 (nat_lit 17) [AV.sl (nat_lit 2) (facsL l) Own.no, AV.sl (nat_lit 2) (facsL r) Own.no])
 (AV.tup [AV.sl (nat_lit 2) es_1 Own.no, AV.int IntKind.i64 n_1]) [] ∧
 ∃ (es_2 : List AV),
 ∃ (n_2 : Int),
 CallIs
 (tbl
 [(nat_lit 10, s10), (nat_lit 16, s16), (nat_lit 17, s17), (nat_lit 18, s18), (nat_lit 19, s19), (nat_lit 15, s15),
 (nat_lit 20, s39)]
 (nat_lit 18) [AV.sl (nat_lit 2) (facsL l) Own.no, AV.sl (nat_lit 2) (facsL r) Own.no])
 (AV.tup [AV.sl (nat_lit 2) es_2 Own.no, AV.int IntKind.i64 n_2]) [] ∧
 ∃ (es_3 : List AV),
 ∃ (n_3 : Int),
 CallIs
 (tbl
 [(nat_lit 10, s10), (nat_lit 16, s16), (nat_lit 17, s17), (nat_lit 18, s18), (nat_lit 19, s19), (nat_lit 15, s15),
 (nat_lit 20, s39)]
 (nat_lit 19) [AV.sl (nat_lit 2) (facsL l) Own.no, AV.sl (nat_lit 2) (facsL r) Own.no])
 (AV.tup [AV.sl (nat_lit 2) es_3 Own.no, AV.int IntKind.i64 n_3]) [] ∧
 ((n == n_1) = true →
 ((n_2 == n_3) = true →
 ∃ (b : Bool),
 CallIs
 (tbl
 [(nat_lit 10, s10), (nat_lit 16, s16), (nat_lit 17, s17), (nat_lit 18, s18), (nat_lit 19, s19),
 (nat_lit 15, s15), (nat_lit 20, s39)]
 (nat_lit 15) [AV.sl (nat_lit 2) es Own.no, AV.sl (nat_lit 2) es_1 Own.no])
 (AV.bool b) [] ∧
 (b = true →
 ∃ (b : Bool),
 CallIs
 (tbl
 [(nat_lit 10, s10), (nat_lit 16, s16), (nat_lit 17, s17), (nat_lit 18, s18), (nat_lit 19, s19),
 (nat_lit 15, s15), (nat_lit 20, s39)]
 (nat_lit 15) [AV.sl (nat_lit 2) es_2 Own.no, AV.sl (nat_lit 2) es_3 Own.no])
 (AV.bool b) [] ∧
 (b = true →
 ∃ (b : Bool),
 CallIs
 (tbl
 [(nat_lit 10, s10), (nat_lit 16, s16), (nat_lit 17, s17), (nat_lit 18, s18), (nat_lit 19, s19),
 (nat_lit 15, s15), (nat_lit 20, s39)]
 (nat_lit 20) [AV.sl (nat_lit 2) (facsL l) Own.no, AV.sl (nat_lit 2) (facsL r) Own.no])
 (AV.bool b) [] ∧
 (b = true →
 ∃ (b : Bool),
 CallIs
 (tbl
 [(nat_lit 10, s10), (nat_lit 16, s16), (nat_lit 17, s17), (nat_lit 18, s18),
 (nat_lit 19, s19), (nat_lit 15, s15), (nat_lit 20, s39)]
 (nat_lit 15) [AV.sl (nat_lit 2) (facsL l) Own.no, AV.sl (nat_lit 2) (facsL r) Own.no])
 (AV.bool b) [] ∧
 (b = true →
 (true = true → RetIs (AV.bool true) [] (AV.bool true, [])) ∧
 (true = false → RetIs (AV.bool false) [] (AV.bool true, []))) ∧
 (b = false →
 (false = true → RetIs (AV.bool true) [] (AV.bool true, [])) ∧
 (false = false → RetIs (AV.bool false) [] (AV.bool true, [])))) ∧
 (b = false →
 ∃ (b : Bool),
 CallIs
 (tbl
 [(nat_lit 10, s10), (nat_lit 16, s16), (nat_lit 17, s17), (nat_lit 18, s18),
 (nat_lit 19, s19), (nat_lit 15, s15), (nat_lit 20, s39)]
 (nat_lit 15) [AV.sl (nat_lit 2) (facsL l) Own.no, AV.sl (nat_lit 2) (facsL r) Own.no])
 (AV.bool b) [] ∧
 (b = true →
 (false = true → RetIs (AV.bool true) [] (AV.bool true, [])) ∧
 (false = false → RetIs (AV.bool false) [] (AV.bool true, []))) ∧
 (b = false →
 (true = true → RetIs (AV.bool true) [] (AV.bool true, [])) ∧
 (true = false → RetIs (AV.bool false) [] (AV.bool true, []))))) ∧
 (b = false → RetIs (AV.bool false) [] (AV.bool true, []))) ∧
 (b = false → RetIs (AV.bool false) [] (AV.bool true, []))) ∧
 ((n_2 == n_3) = false → RetIs (AV.bool false) [] (AV.bool true, []))) ∧
 ((n == n_1) = false → RetIs (AV.bool false) [] (AV.bool true, []))) ∧
      (b = false →
        ∃ (es : List AV),
 ∃ (n : Int),
 CallIs
 (tbl [(nat_lit 10, s10), (nat_lit 16, s16), (nat_lit 17, s17), (nat_lit 18, s18), (nat_lit 19, s19), (nat_lit 15, s15), (nat_lit 20, s39)]
 (nat_lit 16) [AV.sl (nat_lit 2) (facsL l) Own.no, AV.sl (nat_lit 2) (facsL r) Own.no])
 (AV.tup [AV.sl (nat_lit 2) es Own.no, AV.int IntKind.i64 n]) [] ∧
 ∃ (es : List AV),
 ∃ (n : Int),
 CallIs
 (tbl [(nat_lit 10, s10), (nat_lit 16, s16), (nat_lit 17, s17), (nat_lit 18, s18), (nat_lit 19, s19), (nat_lit 15, s15), (nat_lit 20, s39)]
 (nat_lit 17) [AV.sl (nat_lit 2) (facsL l) Own.no, AV.sl (nat_lit 2) (facsL r) Own.no])
 (AV.tup [AV.sl (nat_lit 2) es Own.no, AV.int IntKind.i64 n]) [] ∧
 ∃ (es : List AV),
 ∃ (n : Int),
 CallIs
 (tbl
 [(nat_lit 10, s10), (nat_lit 16, s16), (nat_lit 17, s17), (nat_lit 18, s18), (nat_lit 19, s19), (nat_lit 15, s15),
 (nat_lit 20, s39)]
 (nat_lit 18) [AV.sl (nat_lit 2) (facsL l) Own.no, AV.sl (nat_lit 2) (facsL r) Own.no])
 (AV.tup [AV.sl (nat_lit 2) es Own.no, AV.int IntKind.i64 n]) [] ∧
 ∃ (es : List AV),
 ∃ (n : Int),
 CallIs
 (tbl
 [(nat_lit 10, s10), (nat_lit 16, s16), (nat_lit 17, s17), (nat_lit 18, s18), (nat_lit 19, s19), (nat_lit 15, s15),
 (nat_lit 20, s39)]
 (nat_lit 19) [AV.sl (nat_lit 2) (facsL l) Own.no, AV.sl (nat_lit 2) (facsL r) Own.no])
 (AV.tup [AV.sl (nat_lit 2) es Own.no, AV.int IntKind.i64 n]) [] ∧
 RetIs (AV.bool false) [] (AV.bool true, []))) := by kernel_rfl
end Go.Abs

namespace Go.Abs
open Go.Proofs Go.RowKit
theorem p98 (G : Glob) (h l : Int) (hw : wOk h l) : PureOk PU G XD (tbl [(51, s51), (122, s122)]) (itbl []) nAn [] 98 [.agg [.int .i64 h, .int .u64 l]] (wideA (-(wv h l)), []) := by
  constructor
  rw [w98]
  refine ⟨0, 0, callIs_iff.2 rfl, _, _, callIs_iff.2 ?_, retIs_iff.2 rfl⟩
  rw [tb_miss (by decide), tb_hit]
  simp only [s122, s97, sW2]
  rw [if_pos ⟨by unfold wOk; omega, hw⟩, show wv 0 0 - wv h l = -wv h l by unfold wv; omega]
  rfl
theorem dig_congr {a b : Int} (h : (a - b) % 340282366920938463463374607431768211456 = 0) : keptDig 8 a = keptDig 8 b := by
  have e : valB (keptDig 8 a) = valB (keptDig 8 b) := by
    rw [valB_dig, valB_dig]
    simp only [show (65536 : Int) ^ 8 = 340282366920938463463374607431768211456 from rfl]
    omega
  have h1 := dig_val (dig_ok a)
  have h2 := dig_val (dig_ok b)
  rw [← h1, ← h2, e]
theorem abs_neg {h l : Int} (hw : wOk h l) (hh : h < 0) : absI (wv h l) = -wv h l ∧ wv h l < 0 := by
  obtain ⟨a1, a2, a3, a4⟩ := hw
  unfold absI wv
  omega
theorem abs_pos {h l : Int} (hw : wOk h l) (hh : ¬ h < 0) : absI (wv h l) = wv h l ∧ 0 ≤ wv h l := by
  obtain ⟨a1, a2, a3, a4⟩ := hw
  unfold absI wv
  omega
theorem p70 (G : Glob) (h l : Int) (hw : wOk h l) : PureOk PU G XD (tbl [(98, s98), (67, s67)]) (itbl []) nAn [] 70 [.agg [.int .i64 h, .int .u64 l]] (.sl 1 (intsA (keptDig 8 (absI (wv h l)))) (.tok 0), [(8, 3)]) := by
  constructor
  rw [w70]
  have t67 : ∀ {a b : Int}, wOk a b → tbl [(98, s98), (67, s67)] 67 [.agg [.int .i64 a, .int .u64 b]] = some (.sl 1 (intsA (keptDig 8 (wv a b))) (.tok 0), [(8, 3)]) := fun hw => by
    rw [tb_miss (by decide), tb_hit]; simp only [s67]; rw [if_pos hw]
  refine ⟨fun hh => ?_, fun hh => ?_⟩
  · have hh := of_decide_eq_true hh
    obtain ⟨a, b, e, hab, hc⟩ := wideA_form (-wv h l)
    have t98 : tbl [(98, s98), (67, s67)] 98 [.agg [.int .i64 h, .int .u64 l]] = some (.agg [.int .i64 a, .int .u64 b], []) := by
      rw [tb_hit]; simp only [s98, s65, sW1]; rw [if_pos hw, e]
    refine ⟨a, b, callIs_iff.2 t98, _, callIs_iff.2 (t67 hab), rfl, retIs_iff.2 ?_⟩
    rw [(abs_neg hw hh).1]
    rw [dig_congr hc]
    rfl
  · have hh := of_decide_eq_false hh
    refine ⟨_, callIs_iff.2 (t67 hw), rfl, retIs_iff.2 ?_⟩
    rw [(abs_pos hw hh).1]
    rfl
theorem sWd_of {G : Glob} {f : FuncId} {g : Int → AV × List (Nat × TypeId)} {s : Spec} {R : List (FuncId × Spec)} (hs : ∀ args r, s args = some r → ∃ a l, args = [.agg [.int .i64 a, .int .u64 l]] ∧ wOk a l ∧ r = g (wv a l)) (hR : CalleeOk PU G (tbl R))
    (h : ∀ a l, wOk a l → ∃ A, PureOk PU G XD (tbl R) (itbl []) A [] f [.agg [.int .i64 a, .int .u64 l]] (g (wv a l))) : SpecOk PU G f s := spec_of (X := XD) (m := []) mixedU hR itbl_nil fun args r h' => by
  obtain ⟨a, l, rfl, hw, rfl⟩ := hs args r h'
  exact h a l hw
theorem o98 (G : Glob) : SpecOk PU G 98 s98 := sWd_of (g := fun x => (wideA (-x), [])) (fun args r h => by
    unfold s98 s65 sW1 at h
    split at h
    · split at h
      · rename_i hw; injection h with h; exact ⟨_, _, rfl, hw, h.symm⟩
      · cases h
    · cases h) (tbl_cons (o51 G) (tbl_cons (o122 G) tbl_nil)) fun a l hw => ⟨_, p98 G a l hw⟩
theorem o70 (G : Glob) : SpecOk PU G 70 s70 := sWd_of (g := fun x => (.sl 1 (intsA (keptDig 8 (absI x))) (.tok 0), [(8, 3)])) (fun args r h => by
    unfold s70 at h
    split at h
    · split at h
      · rename_i hw; injection h with h; exact ⟨_, _, rfl, hw, h.symm⟩
      · cases h
    · cases h) (tbl_cons (o98 G) (tbl_cons (o67 G) tbl_nil)) fun a l hw => ⟨_, p70 G a l hw⟩
/-! ### Divide at one -/
theorem bit_mod (Y : Int) (_hY : 0 ≤ Y) {b : Nat} (hb : b < 16) : (Y % 65536) / 2 ^ b % 2 = Y / 2 ^ b % 2 := by
  have hc : b = 0 ∨ b = 1 ∨ b = 2 ∨ b = 3 ∨ b = 4 ∨ b = 5 ∨ b = 6 ∨ b = 7 ∨ b = 8 ∨ b = 9 ∨ b = 10 ∨ b = 11 ∨ b = 12 ∨ b = 13 ∨ b = 14 ∨ b = 15 := by omega
  rcases hc with rfl | rfl | rfl | rfl | rfl | rfl | rfl | rfl | rfl | rfl | rfl | rfl | rfl | rfl | rfl | rfl <;> simp <;> omega
theorem bit_at (X : Int) (hX : 0 ≤ X) (k : Nat) : (X / 65536 ^ (k / 16) % 65536) / 2 ^ (k % 16) % 2 = X / 2 ^ k % 2 := by
  rw [bit_mod _ (Int.ediv_nonneg hX (Int.le_of_lt (pow_pos' _))) (Nat.mod_lt _ (by decide)), Int.ediv_ediv_of_nonneg (Int.le_of_lt (pow_pos' _))]
  congr 2
  have : (65536 : Int) ^ (k / 16) = 2 ^ (16 * (k / 16)) := by rw [Int.pow_mul]; rfl
  rw [this, ← Int.pow_add]
  congr 1
  omega
end Go.Abs

namespace Go.Abs
open Go.Proofs Go.RowKit
abbrev T53 : List (FuncId × Spec) := [(70, s70), (51, s51), (71, s71), (72, s72), (73, s73)]
theorem t53_70 {a b : Int} (h : wOk a b) : tbl T53 70 [.agg [.int .i64 a, .int .u64 b]] = some (.sl 1 (intsA (keptDig 8 (absI (wv a b)))) (.tok 0), [(8, 3)]) := by
  rw [tb_hit]; simp only [s70]; rw [if_pos h]
theorem t53_71 {l : List Int} {o : Own} {n : Int} (hl : dOk l) (h0 : 0 ≤ n) (h1 : n ≤ 1) : tbl T53 71 [.sl 1 (intsA l) o, .int .i64 n] = some (.sl 1 (intsA (keptDig 8 (2 * valB l + n))) (.tok 0), [(8, 3)]) := by
  rw [tb_miss (by decide), tb_miss (by decide), tb_hit]; simp only [s71]; rw [if_pos ⟨trivial, h0, h1⟩, unIs, Option.bind_some, if_pos hl]
theorem t53_72 {l r : List Int} {o o' : Own} (hl : dOk l) (hr : dOk r) : tbl T53 72 [.sl 1 (intsA l) o, .sl 1 (intsA r) o'] = some (.bool (decide (valB l < valB r)), []) := by
  rw [tb_miss (by decide), tb_miss (by decide), tb_miss (by decide), tb_hit]; simp only [s72]; rw [if_pos ⟨trivial, trivial⟩, unIs, Option.bind_some, unIs, Option.bind_some, if_pos ⟨hl, hr⟩]
theorem t53_73 {l r : List Int} {o o' : Own} (hl : dOk l) (hr : dOk r) : tbl T53 73 [.sl 1 (intsA l) o, .sl 1 (intsA r) o'] = some (.sl 1 (intsA (keptDig 8 (valB l - valB r))) (.tok 0), [(8, 3)]) := by
  rw [tb_miss (by decide), tb_miss (by decide), tb_miss (by decide), tb_miss (by decide), tb_hit]; simp only [s73]; rw [if_pos ⟨trivial, trivial⟩, unIs, Option.bind_some, unIs, Option.bind_some, if_pos ⟨hl, hr⟩]
def digZ : List Int := keptDig 8 0
def digO : List Int := keptDig 8 1
theorem digZ_val : valB digZ = 0 := by decide
theorem digO_val : valB digO = 1 := by decide
theorem big_not_small {x : Int} (h : 1152921504606846976 < absI x) : small x = false := by
  unfold absI at h
  unfold small
  exact decide_eq_false (by omega)
theorem small_of {x : Int} (h : absI x ≤ 1152921504606846976) : small x = true := by
  unfold absI at h
  unfold small
  exact decide_eq_true (by omega)
theorem ret_big {x : Int} (h : 1152921504606846976 < absI x) : RetIs (AV.tup [AV.int .i64 0, AV.bool false]) [] (AV.tup [AV.int .i64 (if small x = true then x else 0), AV.bool (small x)], []) := by
  rw [big_not_small h]
  exact retIs_iff.2 rfl
theorem half_le {X : Int} (hX : 0 ≤ X) (k : Nat) : X / 2 ^ k ≤ X := Int.ediv_le_self _ hX
theorem half_step (X : Int) (k : Nat) : X / 2 ^ (k + 1) = X / 2 ^ k / 2 := by
  rw [Int.pow_succ, Int.ediv_ediv_of_nonneg (Int.le_of_lt (Int.pow_pos (by decide)))]
theorem p53 (G : Glob) (h l : Int) (hw : wOk h l) : PureOk PU G XD (tbl T53) (itbl []) (a53 h l) [] 53 [.agg [.int .i64 h, .int .u64 l], .int .i64 1] (.tup [.int .i64 (if small (wv h l) then wv h l else 0), .bool (small (wv h l))], []) := by
  constructor
  rw [w53]
  have hS : ∀ {S : St}, StIs S S := stIs_iff.2 rfl
  have hX0 : 0 ≤ absI (wv h l) ∧ absI (wv h l) ≤ 170141183460469231731687303715884105728 := by
    obtain ⟨a1, a2, a3, a4⟩ := hw
    unfold absI wv
    omega
  have hneg : h < 0 → wv h l = -absI (wv h l) := fun hh => by have := (abs_neg hw hh).1; omega
  have hpos : ¬ h < 0 → wv h l = absI (wv h l) := fun hh => by have := (abs_pos hw hh).1; omega
  refine ⟨fun h => (by cases h), fun _ => ⟨⟨_, callIs_iff.2 (t53_70 hw), (), valsAre_iff.2 rfl, hS, trivial, trivial⟩, fun _ _ _ => ⟨⟨0, 1, callIs_iff.2 rfl, _, callIs_iff.2 (t53_70 (by unfold wOk; omega)), (), valsAre_iff.2 rfl, hS, trivial, trivial⟩, fun _ _ _ => ⟨⟨by decide, (), valsAre_iff.2 rfl, hS, trivial, trivial⟩, fun _ _ _ => ⟨⟨⟨0, valsAre_iff.2 ?_, hS, ⟨Nat.zero_le _, ?_⟩, trivial⟩, fun x hx => ⟨fun hlt => ?_, fun hlt => ?_⟩⟩, fun _ hle _ => ?_⟩⟩⟩⟩⟩
  · have : absI (wv h l) / (2 : Int) ^ (128 - 0) = 0 := by
      rw [show (2 : Int) ^ (128 - 0) = 340282366920938463463374607431768211456 from rfl]; omega
    rw [this]; rfl
  · have : absI (wv h l) / (2 : Int) ^ (128 - 0) = 0 := by
      rw [show (2 : Int) ^ (128 - 0) = 340282366920938463463374607431768211456 from rfl]; omega
    rw [this]; decide
  · have hlt := of_decide_eq_true hlt
    obtain ⟨hx1, hx2⟩ := hx
    obtain ⟨k, hk, hk1⟩ : ∃ k : Nat, k + x = 127 ∧ (127 : Int) - (x : Int) = (k : Int) := ⟨127 - x, by omega, by omega⟩
    have hq : 128 - x = k + 1 := by omega
    have hq' : 128 - (x + 1) = k := by omega
    rw [hk1, hq]
    rw [hq] at hx2
    have hd1 : (k : Int).tdiv 16 = ((k / 16 : Nat) : Int) := by rw [Int.tdiv_eq_ediv_of_nonneg (by omega)]; omega
    have hm1 : (k : Int).tmod 16 = ((k % 16 : Nat) : Int) := by rw [Int.tmod_eq_emod_of_nonneg (by omega)]; omega
    rw [hd1, hm1, wrap64_in (by omega) (by omega)]
    have hlen := dig_len 8 (absI (wv h l))
    have hg : (keptDig 8 (absI (wv h l)))[k / 16]? = some (absI (wv h l) / (65536 : Int) ^ (k / 16) % 65536) := by
      unfold keptDig
      rw [List.getElem?_map, List.getElem?_range (by omega)]; rfl
    have hbit := bit_at (absI (wv h l)) hX0.1 k
    have hn0 : 0 ≤ absI (wv h l) / (65536 : Int) ^ (k / 16) % 65536 := Int.emod_nonneg _ (by decide)
    have hfd : ((absI (wv h l) / (65536 : Int) ^ (k / 16) % 65536).fdiv ((2 : Int) ^ min ((k % 16 : Nat) : Int).toNat 64)).tmod 2 = absI (wv h l) / 2 ^ k % 2 := by
      rw [Int.toNat_natCast, Nat.min_eq_left (by omega), Int.fdiv_eq_ediv_of_nonneg _ (Int.le_of_lt (Int.pow_pos (by decide))), Int.tmod_eq_emod_of_nonneg (Int.ediv_nonneg hn0 (Int.le_of_lt (Int.pow_pos (by decide)))), hbit]
    have hstep := half_step (absI (wv h l)) k
    have hZ0 : 0 ≤ absI (wv h l) / 2 ^ k := Int.ediv_nonneg hX0.1 (Int.le_of_lt (Int.pow_pos (by decide)))
    have hZ1 := half_le hX0.1 k
    rw [hstep] at hx2 ⊢
    refine ⟨by decide, ⟨by omega, show _ < (8 : Int) by omega⟩, _, by rw [Int.toNat_natCast]; exact take_i hg, by decide, by omega, by decide, ?_⟩
    rw [hfd]
    have land : ∀ q : Int, q = absI (wv h l) / 2 ^ k → q ≤ 1152921504606846976 → ∃ y : Nat, ValsAre [AV.agg [AV.int .i64 h, AV.int .u64 l], AV.int .i64 1, AV.ptr 0 0, AV.sl 1 (intsA (keptDig 8 (absI (wv h l)))) .no, AV.sl 1 (intsA digO) .no, AV.sl 1 (intsA digZ) .no, AV.int .i64 q, AV.int .i64 (IntKind.i64.wrap ((k : Int) - 1))]
        [AV.agg [AV.int .i64 h, AV.int .u64 l], AV.int .i64 1, AV.ptr 0 0, AV.sl 1 (intsA (keptDig 8 (absI (wv h l)))) .no, AV.sl 1 (intsA digO) .no, AV.sl 1 (intsA digZ) .no, AV.int .i64 (absI (wv h l) / 2 ^ (128 - y)), AV.int .i64 (127 - (y : Int))] ∧ StIs (bx h l) (bx h l) ∧ (y ≤ 128 ∧ absI (wv h l) / (2 : Int) ^ (128 - y) ≤ 1152921504606846976) ∧ 128 - y < k + 1 := fun q hq1 hq2 => by
      refine ⟨x + 1, valsAre_iff.2 ?_, hS, ⟨by omega, by rw [hq', ← hq1]; exact hq2⟩, by omega⟩
      rw [hq', hq1, wrap64_in (by omega) (by omega), show (k : Int) - 1 = 127 - ((x + 1 : Nat) : Int) by omega]
    have hb01 : absI (wv h l) / 2 ^ k % 2 = 0 ∨ absI (wv h l) / 2 ^ k % 2 = 1 := by omega
    rcases hb01 with hb | hb
    · rw [hb]
      refine ⟨_, callIs_iff.2 (t53_71 (l := digZ) (dig_ok 0) (by decide) (by decide)), true, callIs_iff.2 ?_, fun _ => ⟨fun hbig => ?_, fun hbig => ?_⟩, fun h => (by cases h)⟩
      · rw [digZ_val]
        exact t53_72 (l := digZ) (r := digO) (dig_ok 0) (dig_ok 1)
      · have hbig := of_decide_eq_true hbig
        rw [wrap64_in (by omega) (by omega)] at hbig
        exact ret_big (by omega)
      · have hbig := of_decide_eq_false hbig
        rw [wrap64_in (by omega) (by omega)] at hbig ⊢
        rw [digZ_val]
        exact land (2 * (absI (wv h l) / 2 ^ k / 2)) (by omega) (by omega)
    · rw [hb]
      refine ⟨_, callIs_iff.2 (t53_71 (l := digZ) (dig_ok 0) (by decide) (by decide)), false, callIs_iff.2 ?_, fun h => (by cases h), fun _ => ?_⟩
      · rw [digZ_val]
        exact t53_72 (l := digO) (r := digO) (dig_ok 1) (dig_ok 1)
      · rw [digZ_val]
        refine ⟨_, callIs_iff.2 (t53_73 (l := digO) (r := digO) (dig_ok 1) (dig_ok 1)), fun hbig => ?_, fun hbig => ?_⟩
        · have hbig := of_decide_eq_true hbig
          rw [wrap64_in (n := 2 * (absI (wv h l) / 2 ^ k / 2)) (by omega) (by omega), wrap64_in (by omega) (by omega)] at hbig
          exact ret_big (by omega)
        · have hbig := of_decide_eq_false hbig
          rw [wrap64_in (n := 2 * (absI (wv h l) / 2 ^ k / 2)) (by omega) (by omega), wrap64_in (by omega) (by omega)] at hbig ⊢
          rw [digO_val]
          exact land (2 * (absI (wv h l) / 2 ^ k / 2) + 1) (by omega) (by omega)
  · have hlt := of_decide_eq_false hlt
    obtain ⟨hx1, hx2⟩ := hx
    obtain rfl : x = 128 := by omega
    have e : absI (wv h l) / (2 : Int) ^ (128 - 128) = absI (wv h l) := by simp
    rw [e] at hx2 ⊢
    exact ⟨(), valsAre_iff.2 rfl, hS, hx2, trivial⟩
  · refine ⟨_, callIs_iff.2 rfl, false, callIs_iff.2 (t53_72 (l := digO) (r := digZ) (dig_ok 1) (dig_ok 0)), fun h => (by cases h), fun _ => ⟨true, callIs_iff.2 (t53_72 (l := digZ) (r := digO) (dig_ok 0) (dig_ok 1)), fun _ => ⟨fun hbig => ?_, fun _ => ⟨fun hh => ⟨fun h => (by cases h), fun _ => ⟨fun _ => retIs_iff.2 ?_, fun h => (by cases h)⟩⟩, fun hh => ⟨fun h => (by cases h), fun _ => ⟨fun h => (by cases h), fun _ => retIs_iff.2 ?_⟩⟩⟩⟩, fun h => (by cases h)⟩⟩
    · exact absurd (of_decide_eq_true hbig) (by omega)
    · rw [small_of hle, if_pos rfl, wrap64_in (by omega) (by omega), show (0 : Int) - absI (wv h l) = wv h l by have := hneg (of_decide_eq_true hh); omega]
    · rw [small_of hle, if_pos rfl, show absI (wv h l) = wv h l by have := hpos (of_decide_eq_false hh); omega]
theorem o53 (G : Glob) : SpecOk PU G 53 s53 := spec_of (X := XD) (m := []) mixedU (tbl_cons (o70 G) (tbl_cons (o51 G) (tbl_cons (o71 G) (tbl_cons (o72 G) (tbl_cons (o73 G) tbl_nil))))) itbl_nil fun args r h => by
  unfold s53 s31 at h
  split at h
  · split at h
    · rename_i hw
      injection h with h
      subst h
      obtain ⟨hw, rfl⟩ := hw
      exact ⟨_, p53 G _ _ hw⟩
    · cases h
  · cases h
end Go.Abs

namespace Go.Abs
open Go.Proofs Go.RowKit
theorem p33 (m : Int) (s : List UInt8) : PureOk PU (GU m) XE (tbl []) (itbl []) (a33 s) [] 33 [.str s] (.bool (wordB s), []) := by
  constructor
  rw [w33]
  have hS : ∀ {S : St}, StIs S S := stIs_iff.2 rfl
  have ret : ∀ {b : Bool}, b = wordB s → RetIs (AV.bool b) [] (AV.bool (wordB s), []) := fun h => retIs_iff.2 (by rw [h])
  have low : ∀ {c : UInt8}, lowB c = true ↔ 97 ≤ c.toNat ∧ c.toNat ≤ 122 := by intro c; simp [lowB]
  have inn : ∀ {c : UInt8}, inB c = true ↔ ((97 ≤ c.toNat ∧ c.toNat ≤ 122) ∨ (48 ≤ c.toNat ∧ c.toNat ≤ 57) ∨ c.toNat = 95) := by
    intro c
    have e : c = 95 ↔ c.toNat = 95 := ⟨fun h => by subst h; rfl, fun h => by rw [← UInt8.toNat_inj]; exact h⟩
    simp [inB, lowB, e, or_assoc]
  have bad : ∀ {i : Nat} {c : UInt8}, s[i]? = some c → inB c = false → false = wordB s := fun {i c} hc hb => by
    have : s.all inB = false := by
      rw [← Bool.not_eq_true, List.all_eq_true]
      intro h; rw [h c (List.mem_of_getElem? hc)] at hb; cases hb
    simp [wordB, this]
  refine ⟨fun h => ret ?_, fun h => ⟨fun h2 => ret ?_, fun h2 => ?_⟩⟩
  · have h := of_decide_eq_true h
    have : s = [] := List.length_eq_zero_iff.1 (by omega)
    subst this; rfl
  · have h2 := of_decide_eq_true h2
    simp only [wordB]; rw [decide_eq_false (p := s.length ≤ 24) (by omega)]; simp
  · have h2 := of_decide_eq_false h2
    have h := of_decide_eq_false h
    obtain ⟨c, t, rfl⟩ : ∃ c t, s = c :: t := by
      cases s with
      | nil => simp at h
      | cons c t => exact ⟨c, t, rfl⟩
    have first : lowB c = false → false = wordB (c :: t) := fun hl => by
      simp [wordB, hl]
    refine ⟨by omega, c, rfl, fun h3 => ret (first ?_), fun h3 => ⟨by omega, c, rfl, fun h4 => ret (first ?_), fun h4 => ⟨⟨0, valsAre_iff.2 rfl, hS, ⟨Nat.zero_le _, rfl⟩, trivial⟩, fun x hx => ⟨fun hlt => ?_, fun hlt => ret ?_⟩⟩⟩⟩
    · have := of_decide_eq_true h3
      rw [← Bool.not_eq_true, low]; omega
    · have := of_decide_eq_true h4
      rw [← Bool.not_eq_true, low]; omega
    · obtain ⟨hx1, hx2⟩ := hx
      have hlt := of_decide_eq_true hlt
      have hlt' : x < (c :: t).length := by omega
      have hd := List.getElem?_eq_getElem hlt'
      generalize (c :: t)[x] = d at hd
      have next : inB d = true → ∃ y : Nat, ValsAre [AV.str (c :: t), AV.int IntKind.i64 (IntKind.i64.wrap ((x : Int) + 1))] [AV.str (c :: t), AV.int IntKind.i64 (y : Int)] ∧ StIs { boxes := [], live := [] } { boxes := [], live := [] } ∧ (y ≤ (c :: t).length ∧ (List.take y (c :: t)).all inB = true) ∧ (c :: t).length - y < (c :: t).length - x := fun hi => by
        refine ⟨x + 1, valsAre_iff.2 (by rw [wrap64_in (by omega) (by omega)]; rfl), hS, ⟨by omega, ?_⟩, by omega⟩
        rw [List.take_add_one, List.all_append, hx2, hd]
        simpa using hi
      have hd' : (c :: t)[((x : Nat) : Int).toNat]? = some d := hd
      clear h3 h4 hlt hlt' hx2 h h2
      have e1 : ∀ {p : Prop} [Decidable p], decide p = true → p := fun h => of_decide_eq_true h
      have e2 : ∀ {p : Prop} [Decidable p], decide p = false → ¬ p := fun h => of_decide_eq_false h
      have e3 : ∀ {a b : Int}, (a != b) = true → a ≠ b := fun h => by simpa using h
      have e4 : ∀ {a b : Int}, (a != b) = false → a = b := fun h => by simpa using h
      repeat' (first | refine ⟨by omega, d, hd', ?_, ?_⟩ | (intro h; first | replace h := e1 h | replace h := e2 h | replace h := e3 h | replace h := e4 h))
      all_goals (first | (refine next ?_; rw [inn]; omega) | (refine ret (bad hd ?_); rw [← Bool.not_eq_true, inn]; omega))
    · have hlt := of_decide_eq_false hlt
      have : x = (c :: t).length := by have := hx.1; omega
      subst this
      have hall : (c :: t).all inB = true := by have := hx.2; rwa [List.take_length] at this
      have hl : lowB c = true := by
        rw [low]; have := of_decide_eq_false h3; have := of_decide_eq_false h4; omega
      simp only [wordB, hall, List.getD_cons_zero, hl]
      rw [decide_eq_true (p := (c :: t).length ≤ 24) (by omega)]; simp
theorem p36 (m n : Int) : PureOk PU (GU m) XE (tbl []) (itbl []) nAn [] 36 [.int .i64 n] (.bool (farB n), []) := by
  constructor
  rw [w36]
  refine ⟨fun h => retIs_iff.2 ?_, fun h => ⟨fun h2 => retIs_iff.2 ?_, fun h2 => retIs_iff.2 ?_⟩⟩
  · have := of_decide_eq_true h; unfold farB; rw [decide_eq_true (by omega)]
  · have := of_decide_eq_true h2; unfold farB; rw [decide_eq_true (by omega)]
  · have := of_decide_eq_false h; have := of_decide_eq_false h2; unfold farB; rw [decide_eq_false (by omega)]
theorem p14 (m : Int) (l : List Fac) : PureOk PU (GU m) XE (tbl [(33, s33), (36, s36)]) (itbl []) (a14 l) [] 14 [.sl 2 (facsL l) .no] (.int .i64 (checkF l), []) := by
  constructor
  rw [w14]
  have hlen : (facsL l).length = l.length := List.length_map ..
  rw [hlen]
  have hS : ∀ {S : St}, StIs S S := stIs_iff.2 rfl
  have ret : ∀ {n : Int}, n = checkF l → RetIs (AV.int .i64 n) [] (AV.int .i64 (checkF l), []) := fun h => retIs_iff.2 (by rw [h])
  refine ⟨fun h => ret ?_, fun h => ⟨⟨0, valsAre_iff.2 rfl, hS, ⟨Nat.zero_le _, by have := of_decide_eq_false h; omega, rfl⟩, trivial⟩, fun x hx => ⟨fun hlt => ?_, fun hlt => ret ?_⟩⟩⟩
  · have := of_decide_eq_true h
    unfold checkF; rw [if_pos (by omega)]
  · obtain ⟨hx1, hx4, hx2⟩ := hx
    have hlt := of_decide_eq_true hlt
    have hlt' : x < l.length := by omega
    have hf := List.getElem?_eq_getElem hlt'
    have hcf : checkF l = chk none l := by unfold checkF; rw [if_neg (by omega)]
    have hd : l.drop x = l[x] :: l.drop (x + 1) := List.drop_eq_getElem_cons hlt'
    rw [hd] at hx2
    have hgd : l.getD (x + 1 - 1) default = l[x] := by rw [Nat.add_sub_cancel, List.getD_eq_getElem?_getD, hf]; rfl
    generalize l[x] = f at hf hx2 hgd
    rw [← hcf] at hx2
    have next : wordB f.s = true → ¬ (f.e = 0 ∨ farB f.e = true) → (leP (if x = 0 then none else some (l.getD (x - 1) default).s) f.s = false) → ∃ y : Nat,
        ValsAre [AV.sl 2 (facsL l) Own.no, AV.int .i64 (IntKind.i64.wrap ((x : Int) + 1))] [AV.sl 2 (facsL l) Own.no, AV.int .i64 (y : Int)] ∧
        StIs { boxes := [], live := [] } { boxes := [], live := [] } ∧ (y ≤ l.length ∧ l.length ≤ 4 ∧ chk none l = chk (if y = 0 then none else some (l.getD (y - 1) default).s) (l.drop y)) ∧ l.length - y < l.length - x := fun h1 h2 h3 => by
      refine ⟨x + 1, valsAre_iff.2 (by rw [wrap64_in (by omega) (by omega)]; rfl), hS, ⟨by omega, hx4, ?_⟩, by omega⟩
      rw [← hcf, hx2]
      conv => lhs; unfold chk
      rw [if_neg (by rw [h1]; simp), if_neg h2, if_neg (by rw [h3]; simp), if_neg (by omega), hgd]
    have hn : takeAt PU 9 (facsL l) ((x : Nat) : Int).toNat 0 = some (.str f.s) := take_name hf
    have hex : takeAt PU 3 (facsL l) ((x : Nat) : Int).toNat 1 = some (.int .i64 f.e) := take_exp hf
    refine ⟨⟨by omega, by omega⟩, f.s, hn, wordB f.s, callIs_iff.2 rfl, fun hw => ⟨⟨by omega, by omega⟩, f.e, hex, fun h0 => ret ?_, fun h0 => ⟨⟨by omega, by omega⟩, f.e, hex, farB f.e, callIs_iff.2 rfl, fun hfar => ret ?_, fun hfar => ⟨fun hp => ?_, fun hp => ?_⟩⟩⟩, fun hw => ret ?_⟩
    · rw [hx2]; unfold chk; rw [if_neg (by rw [hw]; simp), if_pos (.inl (by simpa using h0))]
    · rw [hx2]; unfold chk; rw [if_neg (by rw [hw]; simp), if_pos (.inr hfar)]
    · have hp := of_decide_eq_true hp
      have h0' : f.e ≠ 0 := by simpa using h0
      have ew : IntKind.i64.wrap ((x : Int) - 1) = ((x - 1 : Nat) : Int) := by rw [wrap64_in (by omega) (by omega)]; omega
      have hq := List.getElem?_eq_getElem (show x - 1 < l.length by omega)
      have hqd : l.getD (x - 1) default = l[x - 1] := by rw [List.getD_eq_getElem?_getD, hq]; rfl
      rw [hqd] at next hx2
      generalize l[x - 1] = q at hq next hx2
      rw [if_neg (show ¬ x = 0 by omega)] at next hx2
      rw [ew]
      refine ⟨⟨by omega, by omega⟩, f.s, hn, ⟨by omega, by omega⟩, q.s, take_name (by simpa using hq), fun hle => ret ?_, fun hle => next hw (by rw [hfar]; simp [h0']) hle⟩
      · rw [hx2]; unfold chk; rw [if_neg (by rw [hw]; simp), if_neg (by rw [hfar]; simp [h0']), if_pos (show leP (some q.s) f.s = true from hle)]
    · have hp := of_decide_eq_false hp
      have h0' : f.e ≠ 0 := by simpa using h0
      have hx0 : x = 0 := by omega
      exact next hw (by rw [hfar]; simp [h0']) (by rw [if_pos hx0]; rfl)
    · rw [hx2]; unfold chk; rw [if_pos hw]
  · obtain ⟨hx1, hx4, hx2⟩ := hx
    have hlt := of_decide_eq_false hlt
    have : x = l.length := by omega
    subst this
    rw [List.drop_length] at hx2
    unfold checkF; rw [if_neg (by omega), hx2]; rfl
theorem p15 (m : Int) (l r : List Fac) (hl : l.length ≤ 9223372036854775807) : PureOk PU (GU m) XE (tbl []) (itbl []) (a15 l r) [] 15 [.sl 2 (facsL l) .no, .sl 2 (facsL r) .no] (.bool (decide (l = r)), []) := by
  constructor
  rw [w15]
  have hlen : (facsL l).length = l.length := List.length_map ..
  have hlen' : (facsL r).length = r.length := List.length_map ..
  rw [hlen, hlen']
  have hS : ∀ {S : St}, StIs S S := stIs_iff.2 rfl
  have ret : ∀ {b : Bool}, b = decide (l = r) → RetIs (AV.bool b) [] (AV.bool (decide (l = r)), []) := fun h => retIs_iff.2 (by rw [h])
  refine ⟨fun h => ret ?_, fun h => ⟨⟨0, valsAre_iff.2 rfl, hS, ⟨Nat.zero_le _, Int.ofNat_inj.1 (show (l.length : Int) = r.length by simpa using h), rfl⟩, trivial⟩, fun x hx => ⟨fun hlt => ?_, fun hlt => ret ?_⟩⟩⟩
  · rw [decide_eq_false]; rintro rfl; simp at h
  · obtain ⟨hx1, hx2, hx3⟩ := hx
    have hlt := of_decide_eq_true hlt
    have h1 := List.getElem?_eq_getElem (show x < l.length by omega)
    have h2 := List.getElem?_eq_getElem (show x < r.length by omega)
    generalize l[x] = a at h1
    generalize r[x] = b at h2
    refine ⟨⟨by omega, by omega⟩, a.s, a.e, take_fac (by simpa using h1), ⟨by omega, by omega⟩, b.s, b.e, take_fac (by simpa using h2), fun hne => ret ?_, fun heq => ⟨x + 1, valsAre_iff.2 (by rw [wrap64_in (by omega) (by omega)]; rfl), hS, ⟨by omega, hx2, ?_⟩, by omega⟩⟩
    · rw [decide_eq_false]
      rintro rfl
      rw [h1] at h2; injection h2 with h2; subst h2
      simp at hne
    · rw [List.take_add_one, List.take_add_one, hx3, h1, h2]
      have : a = b := by
        cases a; cases b
        simp at heq
        simp [heq]
      rw [this]
  · obtain ⟨hx1, hx2, hx3⟩ := hx
    have hlt := of_decide_eq_false hlt
    have : x = l.length := by omega
    subst this
    rw [List.take_length, hx2, List.take_length] at hx3
    rw [decide_eq_true hx3]
theorem o33 (m : Int) : SpecOk PU (GU m) 33 s33 := spec_of (X := XE) (m := []) mixedU tbl_nil itbl_nil fun args r h => by
  unfold s33 s27 at h
  split at h
  · injection h with h; subst h; exact ⟨_, p33 m _⟩
  · cases h
theorem o36 (m : Int) : SpecOk PU (GU m) 36 s36 := spec_of (X := XE) (m := []) mixedU tbl_nil itbl_nil fun args r h => by
  unfold s36 at h
  split at h
  · injection h with h; subst h; exact ⟨_, p36 m _⟩
  · cases h
theorem o14 (m : Int) : SpecOk PU (GU m) 14 s14 := sFp_of (X := XE) (tbl_cons (o33 m) (tbl_cons (o36 m) tbl_nil)) itbl_nil fun l r h => by
  injection h with h; subst h; exact ⟨_, p14 m l⟩
theorem o15 (m : Int) : SpecOk PU (GU m) 15 s15 := sF2p_of (X := XE) tbl_nil itbl_nil fun l r x h => by
  split at h
  · rename_i hl; injection h with h; subst h; exact ⟨_, p15 m l r hl⟩
  · cases h
end Go.Abs

namespace Go.Abs
open Go.Proofs Go.RowKit
theorem nm_ext : ∀ {a b : List (List UInt8)}, (a.Pairwise fun x y => x < y) → (b.Pairwise fun x y => x < y) → (∀ s, s ∈ a ↔ s ∈ b) → a = b
  | [], [], _, _, _ => rfl
  | [], y :: b, _, _, h => by have := (h y).2 (by simp); simp at this
  | x :: a, [], _, _, h => by have := (h x).1 (by simp); simp at this
  | x :: a, y :: b, ha, hb, h => by
    obtain ⟨a1, a2⟩ := List.pairwise_cons.1 ha
    obtain ⟨b1, b2⟩ := List.pairwise_cons.1 hb
    have key : x = y := by
      rcases List.mem_cons.1 ((h x).1 (by simp)) with e | hx
      · exact e
      rcases List.mem_cons.1 ((h y).2 (by simp)) with e | hy
      · exact e.symm
      exact absurd (List.lt_trans (a1 y hy) (b1 x hx)) (List.lt_irrefl _)
    subst key
    rw [nm_ext a2 b2 fun s => ⟨fun hs => ?_, fun hs => ?_⟩]
    · rcases List.mem_cons.1 ((h s).1 (List.mem_cons_of_mem _ hs)) with e | h'
      · have := a1 s hs; rw [e] at this; exact absurd this (List.lt_irrefl _)
      · exact h'
    · rcases List.mem_cons.1 ((h s).2 (List.mem_cons_of_mem _ hs)) with e | h'
      · have := b1 s hs; rw [e] at this; exact absurd this (List.lt_irrefl _)
      · exact h'
theorem nm_mem {l : List Fac} {i : Nat} {f : Fac} (h : l[i]? = some f) (s : List UInt8) : s ∈ nmL l (i + 1) ↔ s ∈ nmL l i ∨ s = f.s := by
  unfold nmL
  rw [names_iff, names_iff, List.take_add_one, h]
  constructor
  · rintro ⟨g, hg, rfl⟩
    rcases List.mem_append.1 hg with hg | hg
    · exact .inl ⟨g, hg, rfl⟩
    · rw [show g = f by simpa using hg]; exact .inr rfl
  · rintro (⟨g, hg, rfl⟩ | rfl)
    · exact ⟨g, List.mem_append_left _ hg, rfl⟩
    · exact ⟨f, by simp, rfl⟩
theorem nm_met {l : List Fac} {i : Nat} {f : Fac} (h : l[i]? = some f) (hm : f.s ∈ nmL l i) : nmL l (i + 1) = nmL l i := by
  refine nm_ext (names_lt _) (names_lt _) fun s => ?_
  rw [nm_mem h]
  constructor
  · rintro (h | rfl)
    · exact h
    · exact hm
  · exact .inl
theorem nm_ins {l : List Fac} {i p : Nat} {f : Fac} (h : l[i]? = some f) (h1 : ∀ s ∈ (nmL l i).take p, s < f.s) (h2 : ∀ s ∈ (nmL l i).drop p, f.s < s) : nmL l (i + 1) = (nmL l i).take p ++ [f.s] ++ (nmL l i).drop p := by
  have hp : (nmL l i).Pairwise fun x y => x < y := names_lt _
  refine nm_ext (names_lt _) ?_ fun s => ?_
  · rw [List.append_assoc, List.pairwise_append]
    refine ⟨hp.take, ?_, fun a ha b hb => ?_⟩
    · rw [List.singleton_append, List.pairwise_cons]
      exact ⟨h2, hp.drop⟩
    · rcases List.mem_append.1 hb with hb | hb
      · rw [show b = f.s by simpa using hb]; exact h1 a ha
      · exact List.lt_trans (h1 a ha) (h2 b hb)
  · rw [nm_mem h]
    conv => lhs; rw [← List.take_append_drop p (nmL l i)]
    simp only [List.mem_append, List.mem_singleton]
    constructor
    · rintro ((h | h) | h)
      · exact .inl (.inl h)
      · exact .inr h
      · exact .inl (.inr h)
    · rintro ((h | h) | h)
      · exact .inl (.inl h)
      · exact .inr h
      · exact .inl (.inr h)
theorem nm_len (l : List Fac) (i : Nat) : (nmL l i).length ≤ i := by
  have h1 : (nmL l i).length = ((sumsL (l.take i) []).map (·.1)).length := by unfold nmL namesOf; exact (keptSort_perm _).length_eq
  have h2 := sums_len (l.take i) []
  rw [List.length_take, List.length_nil] at h2
  rw [h1, List.length_map]; omega
theorem strs_len (l : List (List UInt8)) : (strsA l).length = l.length := List.length_map ..
theorem nm_name {l : List Fac} {i : Nat} {f : Fac} (h : l[i]? = some f) : (l.getD i default).s = f.s := by rw [List.getD_eq_getElem?_getD, h]; rfl
set_option maxHeartbeats 1000000 in
theorem p34 (m : Int) (l : List Fac) (hl : lenOk l) : LaxOk PU (GU m) XE (tbl []) (itbl []) (a34 l) [] 34 [.sl 2 (facsL l) .no] (.sl 1 (strsA (namesOf l)) .no, []) := by
  constructor
  rw [w34]
  have hS : ∀ {S : St}, StIs S S := stIs_iff.2 rfl
  have hV : ∀ {l : List AV}, ValsAre l l := valsAre_iff.2 rfl
  have hlen : (facsL l).length = l.length := List.length_map ..
  unfold lenOk at hl
  simp only [hlen, strs_len, Int.toNat_natCast]
  refine ⟨⟨0, hV, hS, Nat.zero_le _, trivial⟩, fun x hx => ⟨fun hlt => ?_, fun hlt => ?_⟩⟩
  · have hlt : x < l.length := Int.ofNat_lt.1 (of_decide_eq_true hlt)
    have hf := List.getElem?_eq_getElem hlt
    generalize l[x] = f at hf
    have hnm := nm_name hf
    have hxl := nm_len l x
    have take_n : takeAt PU 9 (facsL l) x 0 = some (.str f.s) := take_name hf
    refine ⟨⟨(x, 0), hV, hS, ⟨hlt, Nat.zero_le _, fun s hs => by simp at hs⟩, rfl⟩, fun p hp e => ?_⟩
    obtain ⟨px, j⟩ := p
    obtain rfl : x = px := by injection e with e; injection e with _ e; omega
    obtain ⟨_, hj, hlow⟩ := hp
    dsimp only at hj hlow ⊢
    rw [hnm] at hlow
    have next : ∀ p, nmL l (x + 1) = p → ValsAre [AV.sl 2 (facsL l) Own.no, AV.sl 1 (strsA p) Own.no, AV.int .i64 (IntKind.i64.wrap ((x : Int) + 1))] [AV.sl 2 (facsL l) Own.no, AV.sl 1 (strsA (nmL l (x + 1))) Own.no, AV.int .i64 ((x + 1 : Nat) : Int)] := fun p h => valsAre_iff.2 (by rw [wrap64_in (by omega) (by omega), h]; rfl)
    have take_s : ∀ {i : Nat} (h : i < (nmL l x).length), takeAt PU 9 (strsA (nmL l x)) i 0 = some (.str (nmL l x)[i]) := fun h => take_str (List.getElem?_eq_getElem h)
    have hsort : (nmL l x).Pairwise fun x y => x < y := names_lt _
    have high : ∀ h : j < (nmL l x).length, Op.bytesLess (nmL l x)[j] f.s = false → ((nmL l x)[j] == f.s) = false → ∀ s ∈ (nmL l x).drop j, f.s < s := fun h h1 h2 s hs => by
      have h0 : f.s < (nmL l x)[j] := by
        rw [bytesLess_eq, decide_eq_false_iff_not] at h1
        exact ltLN h1 fun e => by rw [e] at h2; simp at h2
      rw [List.drop_eq_getElem_cons h] at hs
      rcases List.mem_cons.1 hs with rfl | hs
      · exact h0
      · have hd : ((nmL l x).drop j).Pairwise fun x y => x < y := hsort.drop
        rw [List.drop_eq_getElem_cons h] at hd
        exact List.lt_trans h0 ((List.pairwise_cons.1 hd).1 s hs)
    refine ⟨fun hjl => ⟨⟨by omega, of_decide_eq_true hjl⟩, _, take_s (Int.ofNat_lt.1 (of_decide_eq_true hjl)), ⟨by omega, by omega⟩, f.s, take_n, fun hb => ?_, fun hb => ⟨⟨fun _ => ⟨⟨by omega, of_decide_eq_true hjl⟩, _, take_s (Int.ofNat_lt.1 (of_decide_eq_true hjl)), ⟨by omega, by omega⟩, f.s, take_n, fun he => ?_, fun he => ?_⟩, fun h => ?_⟩, ?_⟩⟩, fun hjl => ⟨⟨fun h => ?_, fun _ => ?_⟩, ?_⟩⟩
    · have hjl := Int.ofNat_lt.1 (of_decide_eq_true hjl)
      refine ⟨(x, j + 1), valsAre_iff.2 (by rw [wrap64_in (by omega) (by omega)]; rfl), hS, ⟨hlt, hjl, fun s hs => ?_⟩, rfl, ?_⟩
      · simp only at hs ⊢
        rw [hnm]
        rw [List.take_add_one, List.getElem?_eq_getElem hjl] at hs
        rcases List.mem_append.1 hs with hs | hs
        · exact hlow s hs
        · rw [show s = (nmL l x)[j] by simpa using hs]
          rw [bytesLess_eq, decide_eq_true_eq] at hb; exact hb
      · simp only; omega
    · have hjl := Int.ofNat_lt.1 (of_decide_eq_true hjl)
      have he : (nmL l x)[j] = f.s := by simpa using he
      exact ⟨x + 1, next _ (nm_met hf (he ▸ List.getElem_mem hjl)), hS, hlt, by omega⟩
    · refine ⟨(x, j), hV, hS, ⟨hlt, hj, ?_, ?_⟩, rfl, rfl⟩
      · simp only; rw [hnm]; exact hlow
      · simp only; rw [hnm]; exact high (Int.ofNat_lt.1 (of_decide_eq_true hjl)) hb he
    · rw [hjl] at h; cases h
    rotate_left
    · rw [hjl] at h; cases h
    · refine ⟨(x, j), hV, hS, ⟨hlt, hj, ?_, ?_⟩, rfl, rfl⟩
      · simp only; rw [hnm]; exact hlow
      · have := of_decide_eq_false hjl
        intro s hs
        rw [List.drop_eq_nil_of_le (by simp only; omega)] at hs; simp at hs
    all_goals
      intro q hq e
      obtain ⟨qx, qj⟩ := q
      obtain ⟨e1, e2⟩ := e
      obtain rfl : x = qx := by injection e1 with e; injection e with _ e; omega
      obtain rfl : j = qj := by injection e2 with e; injection e with _ e; omega
      obtain ⟨_, hj2, h1, h2⟩ := hq
      simp only at hj2 h1 h2
      rw [hnm] at h1 h2
      have hins := nm_ins hf h1 h2
      have htl : ((nmL l x).take j).length = j := by rw [List.length_take]; omega
      have ht : List.drop 0 (List.take j (strsA (nmL l x))) = strsA ((nmL l x).take j) := by rw [List.drop_zero]; exact (List.map_take ..).symm
      have hd : List.drop j (List.take (nmL l x).length (strsA (nmL l x))) = strsA ((nmL l x).drop j) := by
        rw [List.take_of_length_le (by rw [strs_len]; exact Nat.le_refl _)]; exact (List.map_drop ..).symm
      have hdl : ((nmL l x).drop j).length = (nmL l x).length - j := List.length_drop ..
      dsimp only
      simp only [ht, hd, strs_len, htl, hdl, List.nil_append, List.length_append, List.length_cons, List.length_nil]
      refine ⟨by first | trivial | omega, ⟨Nat.zero_le _, hj⟩, .inl trivial, .inr trivial, by first | trivial | omega, fun hz => ⟨⟨by first | trivial | omega, by first | trivial | omega⟩, f.s, take_n, .inr trivial, by decide, by first | trivial | omega, ⟨hj, Nat.le_refl _⟩, .inl trivial, .inl trivial, by first | trivial | omega, trivial, x + 1, ?_, hS, hlt, by first | trivial | omega⟩, fun hz => ⟨⟨by first | trivial | omega, by first | trivial | omega⟩, f.s, take_n, .inl trivial, by first | trivial | omega, by first | trivial | omega, by first | trivial | omega, ⟨hj, Nat.le_refl _⟩, .inl trivial, .inl trivial, by first | trivial | omega, by first | trivial | omega, x + 1, ?_, hS, hlt, by first | trivial | omega⟩⟩
      · have hz : (nmL l x).take j = [] := List.map_eq_nil_iff.1 hz
        rw [hz] at hins
        have : [AV.str f.s] ++ strsA ((nmL l x).drop j) = strsA ([] ++ [f.s] ++ (nmL l x).drop j) := rfl
        rw [this]; exact next _ hins
      · have : strsA ((nmL l x).take j) ++ [AV.str f.s] ++ strsA ((nmL l x).drop j) = strsA ((nmL l x).take j ++ [f.s] ++ (nmL l x).drop j) := by simp [strsA]
        rw [this]; exact next _ hins
  · have hlt := of_decide_eq_false hlt
    obtain rfl : x = l.length := by omega
    have : nmL l l.length = namesOf l := by unfold nmL; rw [List.take_length]
    rw [this]
    exact retLax_iff.2 ⟨⟨rfl, rfl, .inl rfl⟩, rfl, rfl⟩
end Go.Abs
