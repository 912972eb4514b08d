/- Own texts, part 4. -/
import Derived.Test.YtooobfhjklcnjaaGreatDoorPart3
import Derived.Lib.AtoiErrMem
import Derived.Laws.BitsLemmas

namespace Go.Abs
open Go.Proofs L8
theorem w26 (m n : Int) (bs : List UInt8) (b0 b2 : List AV) (p q : Nat × TypeId) : (openW PP (G8 m) XL (tbl t29) (itbl [(41, s41)]) nAn [] 26 [.sl 1 (bytesL bs) .no, .int .i64 n, .ptr 1 0] (S26 b0 b2 p q) (.tup [.int .i64 (piece (bs.drop n.toNat)).1, .int .i64 (n + (piece (bs.drop n.toNat)).2.1), .int .i64 (piece (bs.drop n.toNat)).2.2], S26 b0 b2 p q)) =
(((0 : Int) ≤ n ∧ n < (↑(bytesL bs).length : Int)) ∧
  ∃ (n_1 : Int),
    takeAt PP (nat_lit 5) (bytesL bs) n.toNat (nat_lit 0) = some (AV.int IntKind.u8 n_1) ∧
      ((0 : Int) ≤ n_1 ∧ n_1 < (256 : Int)) ∧
        ∃ (n_2 : Int),
 takeA (some false) (some (nat_lit 1)) keptClasses (nat_lit 0 + n_1.toNat * nat_lit 1) = some (AV.int IntKind.u8 n_2) ∧
 ((n_2 == (1 : Int)) = true →
 RetOpen
 (AV.p2 (3 : Nat)
 (AV.tup [AV.int IntKind.i64 (0 : Int), AV.int IntKind.i64 (IntKind.i64.wrap (n + (1 : Int))), AV.int IntKind.i64 (0 : Int)]) &&
 boxesOk (3 : Nat) [some b0, some keptClasses, some b2])
 (AV.tup [AV.int IntKind.i64 (0 : Int), AV.int IntKind.i64 (IntKind.i64.wrap (n + (1 : Int))), AV.int IntKind.i64 (0 : Int)])
 { boxes := [some b0, some keptClasses, some b2], live := [p, q] }
 (AV.tup
 [AV.int IntKind.i64 (piece (List.drop n.toNat bs)).fst, AV.int IntKind.i64 (n + (↑(piece (List.drop n.toNat bs)).snd.fst : Int)),
 AV.int IntKind.i64 (piece (List.drop n.toNat bs)).snd.snd],
 { boxes := [some b0, some keptClasses, some b2], live := [p, q] })) ∧
 ((n_2 == (1 : Int)) = false →
 ((n_2 == (6 : Int)) = true →
 (0 : Int) ≤ n ∧
 (n.toNat ≤ (bytesL bs).length ∧ (bytesL bs).length ≤ (bytesL bs).length) ∧
 (nat_lit 1 = nat_lit 1 ∨ bytesL bs = []) ∧
 ∃ (n_3 : Int),
 CallIs
 (tbl [(nat_lit 42, s42), (nat_lit 43, s43), (nat_lit 44, s44), (nat_lit 45, s45), (nat_lit 46, s46)] (nat_lit 42)
 [AV.sl (nat_lit 1) (List.drop n.toNat (List.take (bytesL bs).length (bytesL bs))) Own.no, AV.int IntKind.u8 (10 : Int)])
 (AV.int IntKind.i64 n_3) [] ∧
 (decide (n_3 ≥ (0 : Int)) = true →
 RetOpen
 (AV.p2 (3 : Nat)
 (AV.tup
 [AV.int IntKind.i64 (0 : Int), AV.int IntKind.i64 (IntKind.i64.wrap (n + n_3)), AV.int IntKind.i64 (0 : Int)]) &&
 boxesOk (3 : Nat) [some b0, some keptClasses, some b2])
 (AV.tup [AV.int IntKind.i64 (0 : Int), AV.int IntKind.i64 (IntKind.i64.wrap (n + n_3)), AV.int IntKind.i64 (0 : Int)])
 { boxes := [some b0, some keptClasses, some b2], live := [p, q] }
 (AV.tup
 [AV.int IntKind.i64 (piece (List.drop n.toNat bs)).fst,
 AV.int IntKind.i64 (n + (↑(piece (List.drop n.toNat bs)).snd.fst : Int)),
 AV.int IntKind.i64 (piece (List.drop n.toNat bs)).snd.snd],
 { boxes := [some b0, some keptClasses, some b2], live := [p, q] })) ∧
 (decide (n_3 ≥ (0 : Int)) = false →
 RetOpen
 (AV.p2 (3 : Nat)
 (AV.tup [AV.int IntKind.i64 (0 : Int), AV.int IntKind.i64 (↑(bytesL bs).length : Int), AV.int IntKind.i64 (0 : Int)]) &&
 boxesOk (3 : Nat) [some b0, some keptClasses, some b2])
 (AV.tup [AV.int IntKind.i64 (0 : Int), AV.int IntKind.i64 (↑(bytesL bs).length : Int), AV.int IntKind.i64 (0 : Int)])
 { boxes := [some b0, some keptClasses, some b2], live := [p, q] }
 (AV.tup
 [AV.int IntKind.i64 (piece (List.drop n.toNat bs)).fst,
 AV.int IntKind.i64 (n + (↑(piece (List.drop n.toNat bs)).snd.fst : Int)),
 AV.int IntKind.i64 (piece (List.drop n.toNat bs)).snd.snd],
 { boxes := [some b0, some keptClasses, some b2], live := [p, q] }))) ∧
 ((n_2 == (6 : Int)) = false →
 ((n_2 == (2 : Int)) = true →
 (keptClasses = keptClasses ∧
 (b0.all (AV.p0 (5 : Nat)) = true ∧ b2.all (AV.p0 (5 : Nat)) = true) ∧
 (∃ (bs_1 : List UInt8), bytesL bs = bytesL bs_1 ∧ bs_1.length ≤ nat_lit 1000000 ∧ (0 : Int) ≤ n ∧ n ≤ (↑bs_1.length : Int)) ∧
 ∃ (qs : List UInt8),
 [AV.int IntKind.u8 (2 : Int), AV.int IntKind.u8 (3 : Int), AV.int IntKind.u8 (4 : Int)] = bytesL qs ∧ qs ≠ []) ∧
 (decide
 (IntKind.i64.wrap
 (n +
 (↑(runL [AV.int IntKind.u8 (2 : Int), AV.int IntKind.u8 (3 : Int), AV.int IntKind.u8 (4 : Int)]
 (List.drop n.toNat (bytesD (bytesL bs)))) :
 Int) -
 n) >
 (24 : Int)) =
 true →
 RetOpen
 (AV.p2 (3 : Nat)
 (AV.tup
 [AV.int IntKind.i64 (1 : Int),
 AV.int IntKind.i64
 (n +
 (↑(runL [AV.int IntKind.u8 (2 : Int), AV.int IntKind.u8 (3 : Int), AV.int IntKind.u8 (4 : Int)]
 (List.drop n.toNat (bytesD (bytesL bs)))) :
 Int)),
 AV.int IntKind.i64 (2 : Int)]) &&
 boxesOk (3 : Nat) [some b0, some keptClasses, some b2])
 (AV.tup
 [AV.int IntKind.i64 (1 : Int),
 AV.int IntKind.i64
 (n +
 (↑(runL [AV.int IntKind.u8 (2 : Int), AV.int IntKind.u8 (3 : Int), AV.int IntKind.u8 (4 : Int)]
 (List.drop n.toNat (bytesD (bytesL bs)))) :
 Int)),
 AV.int IntKind.i64 (2 : Int)])
 { boxes := [some b0, some keptClasses, some b2], live := [p, q] }
 (AV.tup
 [AV.int IntKind.i64 (piece (List.drop n.toNat bs)).fst,
 AV.int IntKind.i64 (n + (↑(piece (List.drop n.toNat bs)).snd.fst : Int)),
 AV.int IntKind.i64 (piece (List.drop n.toNat bs)).snd.snd],
 { boxes := [some b0, some keptClasses, some b2], live := [p, q] })) ∧
 (decide
 (IntKind.i64.wrap
 (n +
 (↑(runL [AV.int IntKind.u8 (2 : Int), AV.int IntKind.u8 (3 : Int), AV.int IntKind.u8 (4 : Int)]
 (List.drop n.toNat (bytesD (bytesL bs)))) :
 Int) -
 n) >
 (24 : Int)) =
 false →
 RetOpen
 (AV.p2 (3 : Nat)
 (AV.tup
 [AV.int IntKind.i64 (1 : Int),
 AV.int IntKind.i64
 (n +
 (↑(runL [AV.int IntKind.u8 (2 : Int), AV.int IntKind.u8 (3 : Int), AV.int IntKind.u8 (4 : Int)]
 (List.drop n.toNat (bytesD (bytesL bs)))) :
 Int)),
 AV.int IntKind.i64 (0 : Int)]) &&
 boxesOk (3 : Nat) [some b0, some keptClasses, some b2])
 (AV.tup
 [AV.int IntKind.i64 (1 : Int),
 AV.int IntKind.i64
 (n +
 (↑(runL [AV.int IntKind.u8 (2 : Int), AV.int IntKind.u8 (3 : Int), AV.int IntKind.u8 (4 : Int)]
 (List.drop n.toNat (bytesD (bytesL bs)))) :
 Int)),
 AV.int IntKind.i64 (0 : Int)])
 { boxes := [some b0, some keptClasses, some b2], live := [p, q] }
 (AV.tup
 [AV.int IntKind.i64 (piece (List.drop n.toNat bs)).fst,
 AV.int IntKind.i64 (n + (↑(piece (List.drop n.toNat bs)).snd.fst : Int)),
 AV.int IntKind.i64 (piece (List.drop n.toNat bs)).snd.snd],
 { boxes := [some b0, some keptClasses, some b2], live := [p, q] }))) ∧
 ((n_2 == (2 : Int)) = false →
 ((n_2 == (3 : Int)) = true →
 (keptClasses = keptClasses ∧
 (b0.all (AV.p0 (5 : Nat)) = true ∧ b2.all (AV.p0 (5 : Nat)) = true) ∧
 (∃ (bs_1 : List UInt8), bytesL bs = bytesL bs_1 ∧ bs_1.length ≤ nat_lit 1000000 ∧ (0 : Int) ≤ n ∧ n ≤ (↑bs_1.length : Int)) ∧
 ∃ (qs : List UInt8), [AV.int IntKind.u8 (3 : Int)] = bytesL qs ∧ qs ≠ []) ∧
 (decide
 (n + (↑(runL [AV.int IntKind.u8 (3 : Int)] (List.drop n.toNat (bytesD (bytesL bs)))) : Int) <
 (↑(bytesL bs).length : Int)) =
 true →
 ((0 : Int) ≤ n + (↑(runL [AV.int IntKind.u8 (3 : Int)] (List.drop n.toNat (bytesD (bytesL bs)))) : Int) ∧
 n + (↑(runL [AV.int IntKind.u8 (3 : Int)] (List.drop n.toNat (bytesD (bytesL bs)))) : Int) <
 (↑(bytesL bs).length : Int)) ∧
 ∃ (n_3 : Int),
 takeAt PP (nat_lit 5) (bytesL bs)
 (n + (↑(runL [AV.int IntKind.u8 (3 : Int)] (List.drop n.toNat (bytesD (bytesL bs)))) : Int)).toNat (nat_lit 0) =
 some (AV.int IntKind.u8 n_3) ∧
 ((n_3 == (46 : Int)) = true →
 (keptClasses = keptClasses ∧
 (b0.all (AV.p0 (5 : Nat)) = true ∧ b2.all (AV.p0 (5 : Nat)) = true) ∧
 (∃ (bs_1 : List UInt8),
 bytesL bs = bytesL bs_1 ∧
 bs_1.length ≤ nat_lit 1000000 ∧
 (0 : Int) ≤
 IntKind.i64.wrap
 (n + (↑(runL [AV.int IntKind.u8 (3 : Int)] (List.drop n.toNat (bytesD (bytesL bs)))) : Int) +
 (1 : Int)) ∧
 IntKind.i64.wrap
 (n + (↑(runL [AV.int IntKind.u8 (3 : Int)] (List.drop n.toNat (bytesD (bytesL bs)))) : Int) +
 (1 : Int)) ≤
 (↑bs_1.length : Int)) ∧
 ∃ (qs : List UInt8), [AV.int IntKind.u8 (3 : Int)] = bytesL qs ∧ qs ≠ []) ∧
 (decide
 (IntKind.i64.wrap
 (n + (↑(runL [AV.int IntKind.u8 (3 : Int)] (List.drop n.toNat (bytesD (bytesL bs)))) : Int) +
 (1 : Int)) +
 (↑(runL [AV.int IntKind.u8 (3 : Int)]
 (List.drop
 (IntKind.i64.wrap
 (n +
 (↑(runL [AV.int IntKind.u8 (3 : Int)] (List.drop n.toNat (bytesD (bytesL bs)))) :
 Int) +
 (1 : Int))).toNat
 (bytesD (bytesL bs)))) :
 Int) >
 IntKind.i64.wrap
 (n + (↑(runL [AV.int IntKind.u8 (3 : Int)] (List.drop n.toNat (bytesD (bytesL bs)))) : Int) +
 (1 : Int))) =
 true →
 (keptClasses = keptClasses ∧
 (b0.all (AV.p0 (5 : Nat)) = true ∧ b2.all (AV.p0 (5 : Nat)) = true) ∧
 (∃ (bs_1 : List UInt8),
 bytesL bs = bytesL bs_1 ∧
 bs_1.length ≤ nat_lit 1000000 ∧
 (0 : Int) ≤
 IntKind.i64.wrap
 (n +
 (↑(runL [AV.int IntKind.u8 (3 : Int)] (List.drop n.toNat (bytesD (bytesL bs)))) :
 Int) +
 (1 : Int)) ∧
 IntKind.i64.wrap
 (n +
 (↑(runL [AV.int IntKind.u8 (3 : Int)] (List.drop n.toNat (bytesD (bytesL bs)))) :
 Int) +
 (1 : Int)) ≤
 (↑bs_1.length : Int)) ∧
 ∃ (qs : List UInt8), [AV.int IntKind.u8 (3 : Int)] = bytesL qs ∧ qs ≠ []) ∧
 (0 : Int) ≤ n ∧
 (0 : Int) ≤
 IntKind.i64.wrap
 (n + (↑(runL [AV.int IntKind.u8 (3 : Int)] (List.drop n.toNat (bytesD (bytesL bs)))) : Int) +
 (1 : Int)) +
 (↑(runL [AV.int IntKind.u8 (3 : Int)]
 (List.drop
 (IntKind.i64.wrap
 (n +
 (↑(runL [AV.int IntKind.u8 (3 : Int)] (List.drop n.toNat (bytesD (bytesL bs)))) :
 Int) +
 (1 : Int))).toNat
 (bytesD (bytesL bs)))) :
 Int) ∧
 (n.toNat ≤
 (IntKind.i64.wrap
 (n +
 (↑(runL [AV.int IntKind.u8 (3 : Int)] (List.drop n.toNat (bytesD (bytesL bs)))) : Int) +
 (1 : Int)) +
 (↑(runL [AV.int IntKind.u8 (3 : Int)]
 (List.drop
 (IntKind.i64.wrap
 (n +
 (↑(runL [AV.int IntKind.u8 (3 : Int)]
 (List.drop n.toNat (bytesD (bytesL bs)))) :
 Int) +
 (1 : Int))).toNat
 (bytesD (bytesL bs)))) :
 Int)).toNat ∧
 (IntKind.i64.wrap
 (n +
 (↑(runL [AV.int IntKind.u8 (3 : Int)] (List.drop n.toNat (bytesD (bytesL bs)))) : Int) +
 (1 : Int)) +
 (↑(runL [AV.int IntKind.u8 (3 : Int)]
 (List.drop
 (IntKind.i64.wrap
 (n +
 (↑(runL [AV.int IntKind.u8 (3 : Int)]
 (List.drop n.toNat (bytesD (bytesL bs)))) :
 Int) +
 (1 : Int))).toNat
 (bytesD (bytesL bs)))) :
 Int)).toNat ≤
 (bytesL bs).length) ∧
 (nat_lit 1 = nat_lit 1 ∨ bytesL bs = []) ∧
 (nat_lit 1 = nat_lit 1 ∨
 List.drop n.toNat
 (List.take
 (IntKind.i64.wrap
 (n +
 (↑(runL [AV.int IntKind.u8 (3 : Int)]
 (List.drop n.toNat (bytesD (bytesL bs)))) :
 Int) +
 (1 : Int)) +
 (↑(runL [AV.int IntKind.u8 (3 : Int)]
 (List.drop
 (IntKind.i64.wrap
 (n +
 (↑(runL [AV.int IntKind.u8 (3 : Int)]
 (List.drop n.toNat (bytesD (bytesL bs)))) :
 Int) +
 (1 : Int))).toNat
 (bytesD (bytesL bs)))) :
 Int)).toNat
 (bytesL bs)) =
 []) ∧
 ∃ (l : List UInt8),
 List.mapM byteOf
 (List.drop n.toNat
 (List.take
 (IntKind.i64.wrap
 (n +
 (↑(runL [AV.int IntKind.u8 (3 : Int)]
 (List.drop n.toNat (bytesD (bytesL bs)))) :
 Int) +
 (1 : Int)) +
 (↑(runL [AV.int IntKind.u8 (3 : Int)]
 (List.drop
 (IntKind.i64.wrap
 (n +
 (↑(runL [AV.int IntKind.u8 (3 : Int)]
 (List.drop n.toNat (bytesD (bytesL bs)))) :
 Int) +
 (1 : Int))).toNat
 (bytesD (bytesL bs)))) :
 Int)).toNat
 (bytesL bs))) =
 some l ∧
 ∃ (n_4 : Int),
 CallIs
 (tbl
 [(nat_lit 42, s42), (nat_lit 43, s43), (nat_lit 44, s44), (nat_lit 45, s45),
 (nat_lit 46, s46)]
 (nat_lit 43) [AV.int IntKind.i64 (3 : Int), AV.str l])
 (AV.int IntKind.i64 n_4) [] ∧
 RetOpen
 (AV.p2 (3 : Nat)
 (AV.tup
 [AV.int IntKind.i64 (3 : Int),
 AV.int IntKind.i64
 (IntKind.i64.wrap
 (n +
 (↑(runL [AV.int IntKind.u8 (3 : Int)]
 (List.drop n.toNat (bytesD (bytesL bs)))) :
 Int) +
 (1 : Int)) +
 (↑(runL [AV.int IntKind.u8 (3 : Int)]
 (List.drop
 (IntKind.i64.wrap
 (n +
 (↑(runL [AV.int IntKind.u8 (3 : Int)]
 (List.drop n.toNat (bytesD (bytesL bs)))) :
 Int) +
 (1 : Int))).toNat
 (bytesD (bytesL bs)))) :
 Int)),
 AV.int IntKind.i64 n_4]) &&
 boxesOk (3 : Nat) [some b0, some keptClasses, some b2])
 (AV.tup
 [AV.int IntKind.i64 (3 : Int),
 AV.int IntKind.i64
 (IntKind.i64.wrap
 (n +
 (↑(runL [AV.int IntKind.u8 (3 : Int)]
 (List.drop n.toNat (bytesD (bytesL bs)))) :
 Int) +
 (1 : Int)) +
 (↑(runL [AV.int IntKind.u8 (3 : Int)]
 (List.drop
 (IntKind.i64.wrap
 (n +
 (↑(runL [AV.int IntKind.u8 (3 : Int)]
 (List.drop n.toNat (bytesD (bytesL bs)))) :
 Int) +
 (1 : Int))).toNat
 (bytesD (bytesL bs)))) :
 Int)),
 AV.int IntKind.i64 n_4])
 { boxes := [some b0, some keptClasses, some b2], live := [p, q] }
 (AV.tup
 [AV.int IntKind.i64 (piece (List.drop n.toNat bs)).fst,
 AV.int IntKind.i64 (n + (↑(piece (List.drop n.toNat bs)).snd.fst : Int)),
 AV.int IntKind.i64 (piece (List.drop n.toNat bs)).snd.snd],
 { boxes := [some b0, some keptClasses, some b2], live := [p, q] })) ∧
 (decide
 (IntKind.i64.wrap
 (n + (↑(runL [AV.int IntKind.u8 (3 : Int)] (List.drop n.toNat (bytesD (bytesL bs)))) : Int) +
 (1 : Int)) +
 (↑(runL [AV.int IntKind.u8 (3 : Int)]
 (List.drop
 (IntKind.i64.wrap
 (n +
 (↑(runL [AV.int IntKind.u8 (3 : Int)] (List.drop n.toNat (bytesD (bytesL bs)))) :
 Int) +
 (1 : Int))).toNat
 (bytesD (bytesL bs)))) :
 Int) >
 IntKind.i64.wrap
 (n + (↑(runL [AV.int IntKind.u8 (3 : Int)] (List.drop n.toNat (bytesD (bytesL bs)))) : Int) +
 (1 : Int))) =
 false →
 (0 : Int) ≤ n ∧
 (0 : Int) ≤ n + (↑(runL [AV.int IntKind.u8 (3 : Int)] (List.drop n.toNat (bytesD (bytesL bs)))) : Int) ∧
 (n.toNat ≤
 (n + (↑(runL [AV.int IntKind.u8 (3 : Int)] (List.drop n.toNat (bytesD (bytesL bs)))) : Int)).toNat ∧
 (n + (↑(runL [AV.int IntKind.u8 (3 : Int)] (List.drop n.toNat (bytesD (bytesL bs)))) : Int)).toNat ≤
 (bytesL bs).length) ∧
 (nat_lit 1 = nat_lit 1 ∨ bytesL bs = []) ∧
 (nat_lit 1 = nat_lit 1 ∨
 List.drop n.toNat
 (List.take
 (n +
 (↑(runL [AV.int IntKind.u8 (3 : Int)] (List.drop n.toNat (bytesD (bytesL bs)))) :
 Int)).toNat
 (bytesL bs)) =
 []) ∧
 ∃ (l : List UInt8),
 List.mapM byteOf
 (List.drop n.toNat
 (List.take
 (n +
 (↑(runL [AV.int IntKind.u8 (3 : Int)] (List.drop n.toNat (bytesD (bytesL bs)))) :
 Int)).toNat
 (bytesL bs))) =
 some l ∧
 ∃ (n_4 : Int),
 CallIs
 (tbl
 [(nat_lit 42, s42), (nat_lit 43, s43), (nat_lit 44, s44), (nat_lit 45, s45),
 (nat_lit 46, s46)]
 (nat_lit 43) [AV.int IntKind.i64 (2 : Int), AV.str l])
 (AV.int IntKind.i64 n_4) [] ∧
 RetOpen
 (AV.p2 (3 : Nat)
 (AV.tup
 [AV.int IntKind.i64 (2 : Int),
 AV.int IntKind.i64
 (n +
 (↑(runL [AV.int IntKind.u8 (3 : Int)]
 (List.drop n.toNat (bytesD (bytesL bs)))) :
 Int)),
 AV.int IntKind.i64 n_4]) &&
 boxesOk (3 : Nat) [some b0, some keptClasses, some b2])
 (AV.tup
 [AV.int IntKind.i64 (2 : Int),
 AV.int IntKind.i64
 (n +
 (↑(runL [AV.int IntKind.u8 (3 : Int)] (List.drop n.toNat (bytesD (bytesL bs)))) :
 Int)),
 AV.int IntKind.i64 n_4])
 { boxes := [some b0, some keptClasses, some b2], live := [p, q] }
 (AV.tup
 [AV.int IntKind.i64 (piece (List.drop n.toNat bs)).fst,
 AV.int IntKind.i64 (n + (↑(piece (List.drop n.toNat bs)).snd.fst : Int)),
 AV.int IntKind.i64 (piece (List.drop n.toNat bs)).snd.snd],
 { boxes := [some b0, some keptClasses, some b2], live := [p, q] }))) ∧
 ((n_3 == (46 : Int)) = false →
 (0 : Int) ≤ n ∧
 (0 : Int) ≤ n + (↑(runL [AV.int IntKind.u8 (3 : Int)] (List.drop n.toNat (bytesD (bytesL bs)))) : Int) ∧
 (n.toNat ≤ (n + (↑(runL [AV.int IntKind.u8 (3 : Int)] (List.drop n.toNat (bytesD (bytesL bs)))) : Int)).toNat ∧
 (n + (↑(runL [AV.int IntKind.u8 (3 : Int)] (List.drop n.toNat (bytesD (bytesL bs)))) : Int)).toNat ≤
 (bytesL bs).length) ∧
 (nat_lit 1 = nat_lit 1 ∨ bytesL bs = []) ∧
 (nat_lit 1 = nat_lit 1 ∨
 List.drop n.toNat
 (List.take
 (n + (↑(runL [AV.int IntKind.u8 (3 : Int)] (List.drop n.toNat (bytesD (bytesL bs)))) : Int)).toNat
 (bytesL bs)) =
 []) ∧
 ∃ (l : List UInt8),
 List.mapM byteOf
 (List.drop n.toNat
 (List.take
 (n +
 (↑(runL [AV.int IntKind.u8 (3 : Int)] (List.drop n.toNat (bytesD (bytesL bs)))) :
 Int)).toNat
 (bytesL bs))) =
 some l ∧
 ∃ (n_4 : Int),
 CallIs
 (tbl
 [(nat_lit 42, s42), (nat_lit 43, s43), (nat_lit 44, s44), (nat_lit 45, s45),
 (nat_lit 46, s46)]
 (nat_lit 43) [AV.int IntKind.i64 (2 : Int), AV.str l])
 (AV.int IntKind.i64 n_4) [] ∧
 RetOpen
 (AV.p2 (3 : Nat)
 (AV.tup
 [AV.int IntKind.i64 (2 : Int),
 AV.int IntKind.i64
 (n +
 (↑(runL [AV.int IntKind.u8 (3 : Int)] (List.drop n.toNat (bytesD (bytesL bs)))) :
 Int)),
 AV.int IntKind.i64 n_4]) &&
 boxesOk (3 : Nat) [some b0, some keptClasses, some b2])
 (AV.tup
 [AV.int IntKind.i64 (2 : Int),
 AV.int IntKind.i64
 (n +
 (↑(runL [AV.int IntKind.u8 (3 : Int)] (List.drop n.toNat (bytesD (bytesL bs)))) : Int)),
 AV.int IntKind.i64 n_4])
 { boxes := [some b0, some keptClasses, some b2], live := [p, q] }
 (AV.tup
 [AV.int IntKind.i64 (piece (List.drop n.toNat bs)).fst,
 AV.int IntKind.i64 (n + (↑(piece (List.drop n.toNat bs)).snd.fst : Int)),
 AV.int IntKind.i64 (piece (List.drop n.toNat bs)).snd.snd],
 { boxes := [some b0, some keptClasses, some b2], live := [p, q] }))) ∧
 (decide
 (n + (↑(runL [AV.int IntKind.u8 (3 : Int)] (List.drop n.toNat (bytesD (bytesL bs)))) : Int) <
 (↑(bytesL bs).length : Int)) =
 false →
 (0 : Int) ≤ n ∧
 (0 : Int) ≤ n + (↑(runL [AV.int IntKind.u8 (3 : Int)] (List.drop n.toNat (bytesD (bytesL bs)))) : Int) ∧
 (n.toNat ≤ (n + (↑(runL [AV.int IntKind.u8 (3 : Int)] (List.drop n.toNat (bytesD (bytesL bs)))) : Int)).toNat ∧
 (n + (↑(runL [AV.int IntKind.u8 (3 : Int)] (List.drop n.toNat (bytesD (bytesL bs)))) : Int)).toNat ≤
 (bytesL bs).length) ∧
 (nat_lit 1 = nat_lit 1 ∨ bytesL bs = []) ∧
 (nat_lit 1 = nat_lit 1 ∨
 List.drop n.toNat
 (List.take (n + (↑(runL [AV.int IntKind.u8 (3 : Int)] (List.drop n.toNat (bytesD (bytesL bs)))) : Int)).toNat
 (bytesL bs)) =
 []) ∧
 ∃ (l : List UInt8),
 List.mapM byteOf
 (List.drop n.toNat
 (List.take
 (n + (↑(runL [AV.int IntKind.u8 (3 : Int)] (List.drop n.toNat (bytesD (bytesL bs)))) : Int)).toNat
 (bytesL bs))) =
 some l ∧
 ∃ (n_3 : Int),
 CallIs
 (tbl [(nat_lit 42, s42), (nat_lit 43, s43), (nat_lit 44, s44), (nat_lit 45, s45), (nat_lit 46, s46)]
 (nat_lit 43) [AV.int IntKind.i64 (2 : Int), AV.str l])
 (AV.int IntKind.i64 n_3) [] ∧
 RetOpen
 (AV.p2 (3 : Nat)
 (AV.tup
 [AV.int IntKind.i64 (2 : Int),
 AV.int IntKind.i64
 (n + (↑(runL [AV.int IntKind.u8 (3 : Int)] (List.drop n.toNat (bytesD (bytesL bs)))) : Int)),
 AV.int IntKind.i64 n_3]) &&
 boxesOk (3 : Nat) [some b0, some keptClasses, some b2])
 (AV.tup
 [AV.int IntKind.i64 (2 : Int),
 AV.int IntKind.i64
 (n + (↑(runL [AV.int IntKind.u8 (3 : Int)] (List.drop n.toNat (bytesD (bytesL bs)))) : Int)),
 AV.int IntKind.i64 n_3])
 { boxes := [some b0, some keptClasses, some b2], live := [p, q] }
 (AV.tup
 [AV.int IntKind.i64 (piece (List.drop n.toNat bs)).fst,
 AV.int IntKind.i64 (n + (↑(piece (List.drop n.toNat bs)).snd.fst : Int)),
 AV.int IntKind.i64 (piece (List.drop n.toNat bs)).snd.snd],
 { boxes := [some b0, some keptClasses, some b2], live := [p, q] }))) ∧
 ((n_2 == (3 : Int)) = false →
 ((n_2 == (5 : Int)) = true →
 (0 : Int) ≤ IntKind.i64.wrap (n + (1 : Int)) ∧
 ((IntKind.i64.wrap (n + (1 : Int))).toNat ≤ (bytesL bs).length ∧ (bytesL bs).length ≤ (bytesL bs).length) ∧
 (nat_lit 1 = nat_lit 1 ∨ bytesL bs = []) ∧
 ∃ (n_3 : Int),
 CallIs
 (tbl [(nat_lit 42, s42), (nat_lit 43, s43), (nat_lit 44, s44), (nat_lit 45, s45), (nat_lit 46, s46)] (nat_lit 44)
 [AV.sl (nat_lit 1) (List.drop (IntKind.i64.wrap (n + (1 : Int))).toNat (List.take (bytesL bs).length (bytesL bs)))
 Own.no,
 AV.str [(34 : UInt8), (10 : UInt8)]])
 (AV.int IntKind.i64 n_3) [] ∧
 (decide (n_3 < (0 : Int)) = true →
 RetOpen
 (AV.p2 (3 : Nat)
 (AV.tup
 [AV.int IntKind.i64 (-1 : Int), AV.int IntKind.i64 (IntKind.i64.wrap (n + (1 : Int))),
 AV.int IntKind.i64 (80 : Int)]) &&
 boxesOk (3 : Nat) [some b0, some keptClasses, some b2])
 (AV.tup
 [AV.int IntKind.i64 (-1 : Int), AV.int IntKind.i64 (IntKind.i64.wrap (n + (1 : Int))),
 AV.int IntKind.i64 (80 : Int)])
 { boxes := [some b0, some keptClasses, some b2], live := [p, q] }
 (AV.tup
 [AV.int IntKind.i64 (piece (List.drop n.toNat bs)).fst,
 AV.int IntKind.i64 (n + (↑(piece (List.drop n.toNat bs)).snd.fst : Int)),
 AV.int IntKind.i64 (piece (List.drop n.toNat bs)).snd.snd],
 { boxes := [some b0, some keptClasses, some b2], live := [p, q] })) ∧
 (decide (n_3 < (0 : Int)) = false →
 ((0 : Int) ≤ IntKind.i64.wrap (IntKind.i64.wrap (n + (1 : Int)) + n_3) ∧
 IntKind.i64.wrap (IntKind.i64.wrap (n + (1 : Int)) + n_3) < (↑(bytesL bs).length : Int)) ∧
 ∃ (n_4 : Int),
 takeAt PP (nat_lit 5) (bytesL bs) (IntKind.i64.wrap (IntKind.i64.wrap (n + (1 : Int)) + n_3)).toNat
 (nat_lit 0) =
 some (AV.int IntKind.u8 n_4) ∧
 ((n_4 == (10 : Int)) = true →
 RetOpen
 (AV.p2 (3 : Nat)
 (AV.tup
 [AV.int IntKind.i64 (-1 : Int), AV.int IntKind.i64 (IntKind.i64.wrap (n + (1 : Int))),
 AV.int IntKind.i64 (80 : Int)]) &&
 boxesOk (3 : Nat) [some b0, some keptClasses, some b2])
 (AV.tup
 [AV.int IntKind.i64 (-1 : Int), AV.int IntKind.i64 (IntKind.i64.wrap (n + (1 : Int))),
 AV.int IntKind.i64 (80 : Int)])
 { boxes := [some b0, some keptClasses, some b2], live := [p, q] }
 (AV.tup
 [AV.int IntKind.i64 (piece (List.drop n.toNat bs)).fst,
 AV.int IntKind.i64 (n + (↑(piece (List.drop n.toNat bs)).snd.fst : Int)),
 AV.int IntKind.i64 (piece (List.drop n.toNat bs)).snd.snd],
 { boxes := [some b0, some keptClasses, some b2], live := [p, q] })) ∧
 ((n_4 == (10 : Int)) = false →
 (0 : Int) ≤ IntKind.i64.wrap (n + (1 : Int)) ∧
 (0 : Int) ≤ IntKind.i64.wrap (IntKind.i64.wrap (n + n_3) + (1 : Int)) ∧
 ((IntKind.i64.wrap (n + (1 : Int))).toNat ≤
 (IntKind.i64.wrap (IntKind.i64.wrap (n + n_3) + (1 : Int))).toNat ∧
 (IntKind.i64.wrap (IntKind.i64.wrap (n + n_3) + (1 : Int))).toNat ≤ (bytesL bs).length) ∧
 (nat_lit 1 = nat_lit 1 ∨ bytesL bs = []) ∧
 ∃ (n_5 : Int),
 CallIs
 (tbl
 [(nat_lit 42, s42), (nat_lit 43, s43), (nat_lit 44, s44), (nat_lit 45, s45),
 (nat_lit 46, s46)]
 (nat_lit 45)
 [AV.sl (nat_lit 1)
 (List.drop (IntKind.i64.wrap (n + (1 : Int))).toNat
 (List.take (IntKind.i64.wrap (IntKind.i64.wrap (n + n_3) + (1 : Int))).toNat
 (bytesL bs)))
 Own.no])
 (AV.int IntKind.i64 n_5) [] ∧
 RetOpen
 (AV.p2 (3 : Nat)
 (AV.tup
 [AV.int IntKind.i64 (4 : Int),
 AV.int IntKind.i64 (IntKind.i64.wrap (IntKind.i64.wrap (n + n_3) + (2 : Int))),
 AV.int IntKind.i64 n_5]) &&
 boxesOk (3 : Nat) [some b0, some keptClasses, some b2])
 (AV.tup
 [AV.int IntKind.i64 (4 : Int),
 AV.int IntKind.i64 (IntKind.i64.wrap (IntKind.i64.wrap (n + n_3) + (2 : Int))),
 AV.int IntKind.i64 n_5])
 { boxes := [some b0, some keptClasses, some b2], live := [p, q] }
 (AV.tup
 [AV.int IntKind.i64 (piece (List.drop n.toNat bs)).fst,
 AV.int IntKind.i64 (n + (↑(piece (List.drop n.toNat bs)).snd.fst : Int)),
 AV.int IntKind.i64 (piece (List.drop n.toNat bs)).snd.snd],
 { boxes := [some b0, some keptClasses, some b2], live := [p, q] })))) ∧
 ((n_2 == (5 : Int)) = false →
 ((n_2 == (7 : Int)) = true →
 (decide (IntKind.i64.wrap (n + (1 : Int)) < (↑(bytesL bs).length : Int)) = true →
 ((0 : Int) ≤ IntKind.i64.wrap (n + (1 : Int)) ∧ IntKind.i64.wrap (n + (1 : Int)) < (↑(bytesL bs).length : Int)) ∧
 ∃ (n_3 : Int),
 takeAt PP (nat_lit 5) (bytesL bs) (IntKind.i64.wrap (n + (1 : Int))).toNat (nat_lit 0) =
 some (AV.int IntKind.u8 n_3) ∧
 ((n_3 == (61 : Int)) = true →
 ((0 : Int) ≤ n ∧ n < (↑(bytesL bs).length : Int)) ∧
 ∃ (n_4 : Int),
 takeAt PP (nat_lit 5) (bytesL bs) n.toNat (nat_lit 0) = some (AV.int IntKind.u8 n_4) ∧
 ∃ (n_5 : Int),
 CallIs
 (some
 (AV.int IntKind.i64
 (Lib.indexByte [(61 : UInt8), (33 : UInt8), (60 : UInt8)] n_4.toNat.toUInt8),
 []))
 (AV.int IntKind.i64 n_5) [] ∧
 (decide (n_5 ≥ (0 : Int)) = true →
 RetOpen
 (AV.p2 (3 : Nat)
 (AV.tup
 [AV.int IntKind.i64 (5 : Int),
 AV.int IntKind.i64 (IntKind.i64.wrap (IntKind.i64.wrap (n + (1 : Int)) + (1 : Int))),
 AV.int IntKind.i64 (0 : Int)]) &&
 boxesOk (3 : Nat) [some b0, some keptClasses, some b2])
 (AV.tup
 [AV.int IntKind.i64 (5 : Int),
 AV.int IntKind.i64 (IntKind.i64.wrap (IntKind.i64.wrap (n + (1 : Int)) + (1 : Int))),
 AV.int IntKind.i64 (0 : Int)])
 { boxes := [some b0, some keptClasses, some b2], live := [p, q] }
 (AV.tup
 [AV.int IntKind.i64 (piece (List.drop n.toNat bs)).fst,
 AV.int IntKind.i64 (n + (↑(piece (List.drop n.toNat bs)).snd.fst : Int)),
 AV.int IntKind.i64 (piece (List.drop n.toNat bs)).snd.snd],
 { boxes := [some b0, some keptClasses, some b2], live := [p, q] })) ∧
 (decide (n_5 ≥ (0 : Int)) = false →
 ((0 : Int) ≤ n ∧ n < (↑(bytesL bs).length : Int)) ∧
 ∃ (n_6 : Int),
 takeAt PP (nat_lit 5) (bytesL bs) n.toNat (nat_lit 0) = some (AV.int IntKind.u8 n_6) ∧
 ((n_6 != (33 : Int)) = true →
 RetOpen
 (AV.p2 (3 : Nat)
 (AV.tup
 [AV.int IntKind.i64 (5 : Int),
 AV.int IntKind.i64 (IntKind.i64.wrap (n + (1 : Int))),
 AV.int IntKind.i64 (0 : Int)]) &&
 boxesOk (3 : Nat) [some b0, some keptClasses, some b2])
 (AV.tup
 [AV.int IntKind.i64 (5 : Int),
 AV.int IntKind.i64 (IntKind.i64.wrap (n + (1 : Int))),
 AV.int IntKind.i64 (0 : Int)])
 { boxes := [some b0, some keptClasses, some b2], live := [p, q] }
 (AV.tup
 [AV.int IntKind.i64 (piece (List.drop n.toNat bs)).fst,
 AV.int IntKind.i64 (n + (↑(piece (List.drop n.toNat bs)).snd.fst : Int)),
 AV.int IntKind.i64 (piece (List.drop n.toNat bs)).snd.snd],
 { boxes := [some b0, some keptClasses, some b2], live := [p, q] })) ∧
 ((n_6 != (33 : Int)) = false →
 RetOpen
 (AV.p2 (3 : Nat)
 (AV.tup
 [AV.int IntKind.i64 (-1 : Int),
 AV.int IntKind.i64 (IntKind.i64.wrap (n + (1 : Int))),
 AV.int IntKind.i64 (80 : Int)]) &&
 boxesOk (3 : Nat) [some b0, some keptClasses, some b2])
 (AV.tup
 [AV.int IntKind.i64 (-1 : Int),
 AV.int IntKind.i64 (IntKind.i64.wrap (n + (1 : Int))),
 AV.int IntKind.i64 (80 : Int)])
 { boxes := [some b0, some keptClasses, some b2], live := [p, q] }
 (AV.tup
 [AV.int IntKind.i64 (piece (List.drop n.toNat bs)).fst,
 AV.int IntKind.i64 (n + (↑(piece (List.drop n.toNat bs)).snd.fst : Int)),
 AV.int IntKind.i64 (piece (List.drop n.toNat bs)).snd.snd],
 { boxes := [some b0, some keptClasses, some b2], live := [p, q] })))) ∧
 ((n_3 == (61 : Int)) = false →
 ((0 : Int) ≤ n ∧ n < (↑(bytesL bs).length : Int)) ∧
 ∃ (n_4 : Int),
 takeAt PP (nat_lit 5) (bytesL bs) n.toNat (nat_lit 0) = some (AV.int IntKind.u8 n_4) ∧
 ((n_4 != (33 : Int)) = true →
 RetOpen
 (AV.p2 (3 : Nat)
 (AV.tup
 [AV.int IntKind.i64 (5 : Int), AV.int IntKind.i64 (IntKind.i64.wrap (n + (1 : Int))),
 AV.int IntKind.i64 (0 : Int)]) &&
 boxesOk (3 : Nat) [some b0, some keptClasses, some b2])
 (AV.tup
 [AV.int IntKind.i64 (5 : Int), AV.int IntKind.i64 (IntKind.i64.wrap (n + (1 : Int))),
 AV.int IntKind.i64 (0 : Int)])
 { boxes := [some b0, some keptClasses, some b2], live := [p, q] }
 (AV.tup
 [AV.int IntKind.i64 (piece (List.drop n.toNat bs)).fst,
 AV.int IntKind.i64 (n + (↑(piece (List.drop n.toNat bs)).snd.fst : Int)),
 AV.int IntKind.i64 (piece (List.drop n.toNat bs)).snd.snd],
 { boxes := [some b0, some keptClasses, some b2], live := [p, q] })) ∧
 ((n_4 != (33 : Int)) = false →
 RetOpen
 (AV.p2 (3 : Nat)
 (AV.tup
 [AV.int IntKind.i64 (-1 : Int), AV.int IntKind.i64 (IntKind.i64.wrap (n + (1 : Int))),
 AV.int IntKind.i64 (80 : Int)]) &&
 boxesOk (3 : Nat) [some b0, some keptClasses, some b2])
 (AV.tup
 [AV.int IntKind.i64 (-1 : Int), AV.int IntKind.i64 (IntKind.i64.wrap (n + (1 : Int))),
 AV.int IntKind.i64 (80 : Int)])
 { boxes := [some b0, some keptClasses, some b2], live := [p, q] }
 (AV.tup
 [AV.int IntKind.i64 (piece (List.drop n.toNat bs)).fst,
 AV.int IntKind.i64 (n + (↑(piece (List.drop n.toNat bs)).snd.fst : Int)),
 AV.int IntKind.i64 (piece (List.drop n.toNat bs)).snd.snd],
 { boxes := [some b0, some keptClasses, some b2], live := [p, q] })))) ∧
 (decide (IntKind.i64.wrap (n + (1 : Int)) < (↑(bytesL bs).length : Int)) = false →
 ((0 : Int) ≤ n ∧ n < (↑(bytesL bs).length : Int)) ∧
 ∃ (n_3 : Int),
 takeAt PP (nat_lit 5) (bytesL bs) n.toNat (nat_lit 0) = some (AV.int IntKind.u8 n_3) ∧
 ((n_3 != (33 : Int)) = true →
 RetOpen
 (AV.p2 (3 : Nat)
 (AV.tup
 [AV.int IntKind.i64 (5 : Int), AV.int IntKind.i64 (IntKind.i64.wrap (n + (1 : Int))),
 AV.int IntKind.i64 (0 : Int)]) &&
 boxesOk (3 : Nat) [some b0, some keptClasses, some b2])
 (AV.tup
 [AV.int IntKind.i64 (5 : Int), AV.int IntKind.i64 (IntKind.i64.wrap (n + (1 : Int))),
 AV.int IntKind.i64 (0 : Int)])
 { boxes := [some b0, some keptClasses, some b2], live := [p, q] }
 (AV.tup
 [AV.int IntKind.i64 (piece (List.drop n.toNat bs)).fst,
 AV.int IntKind.i64 (n + (↑(piece (List.drop n.toNat bs)).snd.fst : Int)),
 AV.int IntKind.i64 (piece (List.drop n.toNat bs)).snd.snd],
 { boxes := [some b0, some keptClasses, some b2], live := [p, q] })) ∧
 ((n_3 != (33 : Int)) = false →
 RetOpen
 (AV.p2 (3 : Nat)
 (AV.tup
 [AV.int IntKind.i64 (-1 : Int), AV.int IntKind.i64 (IntKind.i64.wrap (n + (1 : Int))),
 AV.int IntKind.i64 (80 : Int)]) &&
 boxesOk (3 : Nat) [some b0, some keptClasses, some b2])
 (AV.tup
 [AV.int IntKind.i64 (-1 : Int), AV.int IntKind.i64 (IntKind.i64.wrap (n + (1 : Int))),
 AV.int IntKind.i64 (80 : Int)])
 { boxes := [some b0, some keptClasses, some b2], live := [p, q] }
 (AV.tup
 [AV.int IntKind.i64 (piece (List.drop n.toNat bs)).fst,
 AV.int IntKind.i64 (n + (↑(piece (List.drop n.toNat bs)).snd.fst : Int)),
 AV.int IntKind.i64 (piece (List.drop n.toNat bs)).snd.snd],
 { boxes := [some b0, some keptClasses, some b2], live := [p, q] })))) ∧
 ((n_2 == (7 : Int)) = false →
 ((n_2 == (8 : Int)) = true →
 (decide (IntKind.i64.wrap (n + (1 : Int)) < (↑(bytesL bs).length : Int)) = true →
 ((0 : Int) ≤ IntKind.i64.wrap (n + (1 : Int)) ∧ IntKind.i64.wrap (n + (1 : Int)) < (↑(bytesL bs).length : Int)) ∧
 ∃ (n_3 : Int),
 takeAt PP (nat_lit 5) (bytesL bs) (IntKind.i64.wrap (n + (1 : Int))).toNat (nat_lit 0) =
 some (AV.int IntKind.u8 n_3) ∧
 ((n_3 == (61 : Int)) = true →
 ((0 : Int) ≤ n ∧ n < (↑(bytesL bs).length : Int)) ∧
 ∃ (n_4 : Int),
 takeAt PP (nat_lit 5) (bytesL bs) n.toNat (nat_lit 0) = some (AV.int IntKind.u8 n_4) ∧
 ∃ (n_5 : Int),
 CallIs
 (some
 (AV.int IntKind.i64
 (Lib.indexByte [(61 : UInt8), (33 : UInt8), (60 : UInt8)] n_4.toNat.toUInt8),
 []))
 (AV.int IntKind.i64 n_5) [] ∧
 (decide (n_5 ≥ (0 : Int)) = true →
 RetOpen
 (AV.p2 (3 : Nat)
 (AV.tup
 [AV.int IntKind.i64 (5 : Int),
 AV.int IntKind.i64
 (IntKind.i64.wrap (IntKind.i64.wrap (n + (1 : Int)) + (1 : Int))),
 AV.int IntKind.i64 (0 : Int)]) &&
 boxesOk (3 : Nat) [some b0, some keptClasses, some b2])
 (AV.tup
 [AV.int IntKind.i64 (5 : Int),
 AV.int IntKind.i64 (IntKind.i64.wrap (IntKind.i64.wrap (n + (1 : Int)) + (1 : Int))),
 AV.int IntKind.i64 (0 : Int)])
 { boxes := [some b0, some keptClasses, some b2], live := [p, q] }
 (AV.tup
 [AV.int IntKind.i64 (piece (List.drop n.toNat bs)).fst,
 AV.int IntKind.i64 (n + (↑(piece (List.drop n.toNat bs)).snd.fst : Int)),
 AV.int IntKind.i64 (piece (List.drop n.toNat bs)).snd.snd],
 { boxes := [some b0, some keptClasses, some b2], live := [p, q] })) ∧
 (decide (n_5 ≥ (0 : Int)) = false →
 ((0 : Int) ≤ n ∧ n < (↑(bytesL bs).length : Int)) ∧
 ∃ (n_6 : Int),
 takeAt PP (nat_lit 5) (bytesL bs) n.toNat (nat_lit 0) = some (AV.int IntKind.u8 n_6) ∧
 ((n_6 != (33 : Int)) = true →
 RetOpen
 (AV.p2 (3 : Nat)
 (AV.tup
 [AV.int IntKind.i64 (5 : Int),
 AV.int IntKind.i64 (IntKind.i64.wrap (n + (1 : Int))),
 AV.int IntKind.i64 (0 : Int)]) &&
 boxesOk (3 : Nat) [some b0, some keptClasses, some b2])
 (AV.tup
 [AV.int IntKind.i64 (5 : Int),
 AV.int IntKind.i64 (IntKind.i64.wrap (n + (1 : Int))),
 AV.int IntKind.i64 (0 : Int)])
 { boxes := [some b0, some keptClasses, some b2], live := [p, q] }
 (AV.tup
 [AV.int IntKind.i64 (piece (List.drop n.toNat bs)).fst,
 AV.int IntKind.i64 (n + (↑(piece (List.drop n.toNat bs)).snd.fst : Int)),
 AV.int IntKind.i64 (piece (List.drop n.toNat bs)).snd.snd],
 { boxes := [some b0, some keptClasses, some b2], live := [p, q] })) ∧
 ((n_6 != (33 : Int)) = false →
 RetOpen
 (AV.p2 (3 : Nat)
 (AV.tup
 [AV.int IntKind.i64 (-1 : Int),
 AV.int IntKind.i64 (IntKind.i64.wrap (n + (1 : Int))),
 AV.int IntKind.i64 (80 : Int)]) &&
 boxesOk (3 : Nat) [some b0, some keptClasses, some b2])
 (AV.tup
 [AV.int IntKind.i64 (-1 : Int),
 AV.int IntKind.i64 (IntKind.i64.wrap (n + (1 : Int))),
 AV.int IntKind.i64 (80 : Int)])
 { boxes := [some b0, some keptClasses, some b2], live := [p, q] }
 (AV.tup
 [AV.int IntKind.i64 (piece (List.drop n.toNat bs)).fst,
 AV.int IntKind.i64 (n + (↑(piece (List.drop n.toNat bs)).snd.fst : Int)),
 AV.int IntKind.i64 (piece (List.drop n.toNat bs)).snd.snd],
 { boxes := [some b0, some keptClasses, some b2], live := [p, q] })))) ∧
 ((n_3 == (61 : Int)) = false →
 ((0 : Int) ≤ n ∧ n < (↑(bytesL bs).length : Int)) ∧
 ∃ (n_4 : Int),
 takeAt PP (nat_lit 5) (bytesL bs) n.toNat (nat_lit 0) = some (AV.int IntKind.u8 n_4) ∧
 ((n_4 != (33 : Int)) = true →
 RetOpen
 (AV.p2 (3 : Nat)
 (AV.tup
 [AV.int IntKind.i64 (5 : Int), AV.int IntKind.i64 (IntKind.i64.wrap (n + (1 : Int))),
 AV.int IntKind.i64 (0 : Int)]) &&
 boxesOk (3 : Nat) [some b0, some keptClasses, some b2])
 (AV.tup
 [AV.int IntKind.i64 (5 : Int), AV.int IntKind.i64 (IntKind.i64.wrap (n + (1 : Int))),
 AV.int IntKind.i64 (0 : Int)])
 { boxes := [some b0, some keptClasses, some b2], live := [p, q] }
 (AV.tup
 [AV.int IntKind.i64 (piece (List.drop n.toNat bs)).fst,
 AV.int IntKind.i64 (n + (↑(piece (List.drop n.toNat bs)).snd.fst : Int)),
 AV.int IntKind.i64 (piece (List.drop n.toNat bs)).snd.snd],
 { boxes := [some b0, some keptClasses, some b2], live := [p, q] })) ∧
 ((n_4 != (33 : Int)) = false →
 RetOpen
 (AV.p2 (3 : Nat)
 (AV.tup
 [AV.int IntKind.i64 (-1 : Int), AV.int IntKind.i64 (IntKind.i64.wrap (n + (1 : Int))),
 AV.int IntKind.i64 (80 : Int)]) &&
 boxesOk (3 : Nat) [some b0, some keptClasses, some b2])
 (AV.tup
 [AV.int IntKind.i64 (-1 : Int), AV.int IntKind.i64 (IntKind.i64.wrap (n + (1 : Int))),
 AV.int IntKind.i64 (80 : Int)])
 { boxes := [some b0, some keptClasses, some b2], live := [p, q] }
 (AV.tup
 [AV.int IntKind.i64 (piece (List.drop n.toNat bs)).fst,
 AV.int IntKind.i64 (n + (↑(piece (List.drop n.toNat bs)).snd.fst : Int)),
 AV.int IntKind.i64 (piece (List.drop n.toNat bs)).snd.snd],
 { boxes := [some b0, some keptClasses, some b2], live := [p, q] })))) ∧
 (decide (IntKind.i64.wrap (n + (1 : Int)) < (↑(bytesL bs).length : Int)) = false →
 ((0 : Int) ≤ n ∧ n < (↑(bytesL bs).length : Int)) ∧
 ∃ (n_3 : Int),
 takeAt PP (nat_lit 5) (bytesL bs) n.toNat (nat_lit 0) = some (AV.int IntKind.u8 n_3) ∧
 ((n_3 != (33 : Int)) = true →
 RetOpen
 (AV.p2 (3 : Nat)
 (AV.tup
 [AV.int IntKind.i64 (5 : Int), AV.int IntKind.i64 (IntKind.i64.wrap (n + (1 : Int))),
 AV.int IntKind.i64 (0 : Int)]) &&
 boxesOk (3 : Nat) [some b0, some keptClasses, some b2])
 (AV.tup
 [AV.int IntKind.i64 (5 : Int), AV.int IntKind.i64 (IntKind.i64.wrap (n + (1 : Int))),
 AV.int IntKind.i64 (0 : Int)])
 { boxes := [some b0, some keptClasses, some b2], live := [p, q] }
 (AV.tup
 [AV.int IntKind.i64 (piece (List.drop n.toNat bs)).fst,
 AV.int IntKind.i64 (n + (↑(piece (List.drop n.toNat bs)).snd.fst : Int)),
 AV.int IntKind.i64 (piece (List.drop n.toNat bs)).snd.snd],
 { boxes := [some b0, some keptClasses, some b2], live := [p, q] })) ∧
 ((n_3 != (33 : Int)) = false →
 RetOpen
 (AV.p2 (3 : Nat)
 (AV.tup
 [AV.int IntKind.i64 (-1 : Int), AV.int IntKind.i64 (IntKind.i64.wrap (n + (1 : Int))),
 AV.int IntKind.i64 (80 : Int)]) &&
 boxesOk (3 : Nat) [some b0, some keptClasses, some b2])
 (AV.tup
 [AV.int IntKind.i64 (-1 : Int), AV.int IntKind.i64 (IntKind.i64.wrap (n + (1 : Int))),
 AV.int IntKind.i64 (80 : Int)])
 { boxes := [some b0, some keptClasses, some b2], live := [p, q] }
 (AV.tup
 [AV.int IntKind.i64 (piece (List.drop n.toNat bs)).fst,
 AV.int IntKind.i64 (n + (↑(piece (List.drop n.toNat bs)).snd.fst : Int)),
 AV.int IntKind.i64 (piece (List.drop n.toNat bs)).snd.snd],
 { boxes := [some b0, some keptClasses, some b2], live := [p, q] })))) ∧
 ((n_2 == (8 : Int)) = false →
 RetOpen
 (AV.p2 (3 : Nat)
 (AV.tup
 [AV.int IntKind.i64 (-1 : Int), AV.int IntKind.i64 (IntKind.i64.wrap (n + (1 : Int))),
 AV.int IntKind.i64 (80 : Int)]) &&
 boxesOk (3 : Nat) [some b0, some keptClasses, some b2])
 (AV.tup
 [AV.int IntKind.i64 (-1 : Int), AV.int IntKind.i64 (IntKind.i64.wrap (n + (1 : Int))),
 AV.int IntKind.i64 (80 : Int)])
 { boxes := [some b0, some keptClasses, some b2], live := [p, q] }
 (AV.tup
 [AV.int IntKind.i64 (piece (List.drop n.toNat bs)).fst,
 AV.int IntKind.i64 (n + (↑(piece (List.drop n.toNat bs)).snd.fst : Int)),
 AV.int IntKind.i64 (piece (List.drop n.toNat bs)).snd.snd],
 { boxes := [some b0, some keptClasses, some b2], live := [p, q] }))))))))) := by kernel_rfl
end Go.Abs

namespace Go.Abs
open Go.Proofs L8

def tabOk (n : Nat) : Bool :=
  let c := UInt8.ofNat n
  (decide (cls n = 1) == blankB c) && (decide (cls n = 6) == (c == 35)) && (decide (cls n = 2) == letterB c) && (decide (cls n = 3) == digitB c) && (decide (cls n = 5) == (c == 34)) &&
    (decide (cls n = 7) == signB c) && (decide (cls n = 8) == (c == 33)) && ((decide (cls n = 2) || decide (cls n = 3) || decide (cls n = 4)) == innerB c)
theorem tab_ok : (List.range 256).all tabOk = true := by kernel_rfl
structure ClsIs (c : UInt8) : Prop where
  b1 : cls c.toNat = 1 ↔ blankB c = true
  b6 : cls c.toNat = 6 ↔ (c == 35) = true
  b2 : cls c.toNat = 2 ↔ letterB c = true
  b3 : cls c.toNat = 3 ↔ digitB c = true
  b5 : cls c.toNat = 5 ↔ (c == 34) = true
  b7 : cls c.toNat = 7 ↔ signB c = true
  b8 : cls c.toNat = 8 ↔ (c == 33) = true
  inn : (cls c.toNat = 2 ∨ cls c.toNat = 3 ∨ cls c.toNat = 4) ↔ innerB c = true
theorem cls_is (c : UInt8) : ClsIs c := by
  have h := List.all_eq_true.1 tab_ok c.toNat (List.mem_range.2 c.toNat_lt)
  simp only [tabOk, Bool.and_eq_true, beq_iff_eq, UInt8.ofNat_toNat] at h
  obtain ⟨⟨⟨⟨⟨⟨⟨h1, h2⟩, h3⟩, h4⟩, h5⟩, h6⟩, h7⟩, h8⟩ := h
  refine ⟨?_, ?_, ?_, ?_, ?_, ?_, ?_, ?_⟩
  · rw [← h1]; simp
  · rw [← h2]; simp
  · rw [← h3]; simp
  · rw [← h4]; simp
  · rw [← h5]; simp
  · rw [← h6]; simp
  · rw [← h7]; simp
  · rw [← h8]; simp [or_assoc]
theorem inCls_inner : inCls [.int .u8 2, .int .u8 3, .int .u8 4] = innerB := by
  funext c
  have h := (cls_is c).inn
  have e : inCls [.int .u8 2, .int .u8 3, .int .u8 4] c = true ↔ innerB c = true := by
    rw [← h]
    show ((([2, 3, 4] : List UInt8).any fun p => p.toNat == cls c.toNat) = true) ↔ _
    simp
    omega
  cases h1 : inCls [.int .u8 2, .int .u8 3, .int .u8 4] c <;> cases h2 : innerB c <;> simp_all
theorem inCls_digit : inCls [.int .u8 3] = digitB := by
  funext c
  have h := (cls_is c).b3
  have e : inCls [.int .u8 3] c = true ↔ digitB c = true := by
    rw [← h]
    show ((([3] : List UInt8).any fun p => p.toNat == cls c.toNat) = true) ↔ _
    simp
    omega
  cases h1 : inCls [.int .u8 3] c <;> cases h2 : digitB c <;> simp_all
theorem runL_inner {c : UInt8} {t : List UInt8} (h : innerB c = true) : runL [.int .u8 2, .int .u8 3, .int .u8 4] (c :: t) = 1 + (t.takeWhile innerB).length := by
  rw [runL, inCls_inner, List.takeWhile_cons, if_pos h, List.length_cons, Nat.add_comm]
theorem runL_digit {c : UInt8} {t : List UInt8} (h : digitB c = true) : runL [.int .u8 3] (c :: t) = 1 + (t.takeWhile digitB).length := by
  rw [runL, inCls_digit, List.takeWhile_cons, if_pos h, List.length_cons, Nat.add_comm]
theorem runL_digits (l : List UInt8) : runL [.int .u8 3] l = (l.takeWhile digitB).length := by rw [runL, inCls_digit]
theorem letter_inner {c : UInt8} (h : letterB c = true) : innerB c = true := by simp [innerB, h]
theorem take_tw {p : UInt8 → Bool} (l : List UInt8) : l.take (l.takeWhile p).length = l.takeWhile p := (List.prefix_iff_eq_take.1 (List.takeWhile_prefix p)).symm
theorem tbl_hit {g : FuncId} {s : Spec} {l : List (FuncId × Spec)} {args : List AV} : tbl ((g, s) :: l) g args = s args := by simp only [tbl, if_true]
theorem tbl_miss {f g : FuncId} {s : Spec} {l : List (FuncId × Spec)} {args : List AV} (h : f ≠ g) : tbl ((g, s) :: l) f args = tbl l f args := by simp only [tbl, if_neg h]
theorem s39_int {l : List UInt8} (h : intB l = true) (hl : l.length ≤ 1000000) : s43 [.int .i64 2, .str l] = some (.int .i64 (intErr l), []) := by
  simp only [s43]
  rw [if_pos hl, if_neg (fun h => absurd h.1 (by decide)), if_pos ⟨trivial, h⟩]
theorem s39_dec {l : List UInt8} (h : decB l = true) (hl : l.length ≤ 1000000) : s43 [.int .i64 3, .str l] = some (.int .i64 (decErr l), []) := by
  simp only [s43]
  rw [if_pos hl, if_pos ⟨trivial, h⟩]
theorem tb39 {args : List AV} : tbl [(42, s42), (43, s43), (44, s44), (45, s45), (46, s46)] 43 args = s43 args := by
  rw [tbl_miss (fun h => absurd h (by decide)), tbl_hit]
theorem tb40 {args : List AV} : tbl [(42, s42), (43, s43), (44, s44), (45, s45), (46, s46)] 44 args = s44 args := by
  rw [tbl_miss (fun h => absurd h (by decide)), tbl_miss (fun h => absurd h (by decide)), tbl_hit]
theorem tb41 {args : List AV} : tbl [(42, s42), (43, s43), (44, s44), (45, s45), (46, s46)] 45 args = s45 args := by
  rw [tbl_miss (fun h => absurd h (by decide)), tbl_miss (fun h => absurd h (by decide)), tbl_miss (fun h => absurd h (by decide)), tbl_hit]
theorem tw_append {a : List UInt8} (ha : a.all digitB = true) (b : List UInt8) : (a ++ 46 :: b).takeWhile digitB = a := by
  induction a with
  | nil => rfl
  | cons x a ih =>
    simp only [List.all_cons, Bool.and_eq_true] at ha
    rw [List.cons_append, List.takeWhile_cons, if_pos ha.1, ih ha.2]
theorem decB_mk {a b : List UInt8} (ha : a.all digitB = true) (hne : a ≠ []) (hb : b.all digitB = true) (hb0 : b ≠ []) : decB (a ++ 46 :: b) = true := by
  have h1 : (a ++ 46 :: b)[a.length]? = some 46 := by simp
  have h2 : (a ++ 46 :: b).drop (a.length + 1) = b := by
    rw [show a ++ 46 :: b = (a ++ [46]) ++ b by simp, List.drop_left' (by simp)]
  simp only [decB, tw_append ha, h1, h2, intB, hne, hb, hb0, ne_eq, not_false_eq_true, decide_true, Bool.and_self]
theorem s40_eq {t : List UInt8} (h : t.length ≤ 1000000) : s44 [.sl 1 (bytesL t) .no, .str [34, 10]] = some (.int .i64 (if (t.takeWhile lineB).length < t.length then ((t.takeWhile lineB).length : Int) else -1), []) := by
  simp only [s44, onBytes, unBytes_mk, if_true]
  rw [if_pos h]
theorem s41_eq {t : List UInt8} (h : t.length ≤ 1000000) : s45 [.sl 1 (bytesL t) .no] = some (.int .i64 (txtErr t), []) := by
  simp only [s45, onBytes, unBytes_mk, if_true]
  rw [if_pos h]
theorem UInt8.toUInt8_toNat' (c : UInt8) : c.toNat.toUInt8 = c := by simp
theorem tw_at {p : UInt8 → Bool} {l : List UInt8} (h : (l.takeWhile p).length < l.length) : p (l.getD (l.takeWhile p).length 0) = false := by
  cases hp : p (l.getD (l.takeWhile p).length 0) with
  | false => rfl
  | true =>
    have := tw_next (p := p) (l := l) (k := (l.takeWhile p).length) (Nat.le_refl _) h hp
    omega
theorem tw_self {p : UInt8 → Bool} : ∀ {l : List UInt8}, (∀ y ∈ l, p y = true) → l.takeWhile p = l
  | [], _ => rfl
  | a :: l, h => by
    rw [List.takeWhile_cons, if_pos (h a List.mem_cons_self), tw_self fun y hy => h y (List.mem_cons_of_mem _ hy)]
theorem s38_eq {bs : List UInt8} {c : Int} (hb : bs ≠ []) : s42 [.sl 1 (bytesL bs) .no, .int .u8 c] = some (.int .i64 (Lib.indexByte bs c.toNat.toUInt8), []) := by
  have h1 : bytesL bs ≠ [] := by simpa [bytesL] using hb
  show (if 1 = 1 ∧ bytesL bs ≠ [] then onBytes (bytesL bs) fun bs => some (AV.int .i64 (Lib.indexByte bs c.toNat.toUInt8), ([] : List (Nat × TypeId))) else none) = _
  rw [if_pos ⟨rfl, h1⟩, onBytes, unBytes_mk]
theorem ib_take {l : List UInt8} {x : UInt8} : Lib.indexByte l x = if (l.takeWhile (· != x)).length < l.length then ((l.takeWhile (· != x)).length : Int) else -1 := by
  obtain ⟨h1, h2⟩ := ib_spec l x
  by_cases h : x ∈ l
  · rw [h1 h, if_pos]
    rcases Nat.lt_or_ge (l.takeWhile (· != x)).length l.length with hlt | hge
    · exact hlt
    · have he : l.takeWhile (· != x) = l := by
        rw [← take_tw, List.take_of_length_le hge]
      have := takeWhile_all (· != x) l
      rw [he, List.all_eq_true] at this
      exact absurd (this x h) (by simp)
  · rw [h2 h, if_neg]
    have he : l.takeWhile (· != x) = l := by
      refine tw_self fun y hy => ?_
      have : y ≠ x := by rintro rfl; exact h hy
      simpa using this
    rw [he]; omega
theorem take_full (bs : List UInt8) (i : Nat) : ((bytesL bs).take bs.length).drop i = bytesL (bs.drop i) := by
  rw [drop_take_bytes, List.take_of_length_le (Nat.le_refl _)]

theorem p0_mono {a b : Nat} (hab : a ≤ b) {v : AV} (h : v.p0 a = true) : v.p0 b = true := by
  cases v with
  | ptr x o => simp only [AV.p0, decide_eq_true_eq] at h ⊢; omega
  | _ => exact h
theorem all_p0_mono {a b : Nat} (hab : a ≤ b) {l : List AV} (h : l.all (AV.p0 a) = true) : l.all (AV.p0 b) = true := by
  rw [List.all_eq_true] at h ⊢
  exact fun x hx => p0_mono hab (h x hx)
theorem p26 (m : Int) (k : Nat) (bs : List UInt8) (b0 b2 : List AV) (p q : Nat × TypeId) (h0 : b0.all (AV.p0 3) = true) (h2' : b2.all (AV.p0 3) = true) (hk : k < bs.length) (hl : bs.length ≤ 1000000) :
    OpenOk PP (G8 m) XL (tbl t29) (itbl [(41, s41)]) nAn [] 26 [.sl 1 (bytesL bs) .no, .int .i64 k, .ptr 1 0] (S26 b0 b2 p q) (.tup [.int .i64 (piece (bs.drop (k : Int).toNat)).1, .int .i64 (k + (piece (bs.drop (k : Int).toNat)).2.1), .int .i64 (piece (bs.drop (k : Int).toNat)).2.2], S26 b0 b2 p q) := by
  constructor
  rw [w26]
  have hok : boxesOk 3 [some b0, some keptClasses, some b2] = true := by
    have hk : keptClasses.all (AV.p1 3) = true := by kernel_rfl
    simp only [boxesOk, all_p0_p1 h0, all_p0_p1 h2', hk, Bool.and_true]
  have p2i : ∀ a b c : Int, AV.p2 3 (.tup [.int .i64 a, .int .i64 b, .int .i64 c]) = true := fun _ _ _ => rfl
  simp only [bytesD_mk, Int.toNat_natCast, List.length_map, retOpen_iff, take_u8_iff agg5 size5, hok, p2i, Bool.and_true, decide_eq_true_eq, decide_eq_false_iff_not, gt_iff_lt, ge_iff_le, true_or, true_and, and_true, List.cons.injEq, AV.int.injEq, AV.tup.injEq, Prod.mk.injEq, beq_iff_eq, bne_iff_ne, beq_eq_false_iff_ne, bne_eq_false_iff_eq, ne_eq, Nat.zero_add, Nat.mul_one]
  have hw1 : IntKind.i64.wrap ((k : Int) + 1) = ((k + 1 : Nat) : Int) := by rw [wrap64_in (by omega) (by omega)]; omega
  have hct : bs.drop k = bs.getD k 0 :: bs.drop (k + 1) := by
    rw [List.drop_eq_getElem_cons hk]; simp [hk]
  have hcls := cls_is (bs.getD k 0)
  have hcl := cls_lt (bs.getD k 0).toNat
  have hcg := cls_get (bs.getD k 0)
  have hc8 := (bs.getD k 0).toNat_lt
  have htl : (bs.drop (k + 1)).length = bs.length - (k + 1) := by simp
  simp only [hw1, Int.toNat_natCast, take_full]
  rw [hct]
  generalize hc : bs.getD k 0 = c at *
  generalize ht : bs.drop (k + 1) = t at *
  have tb38 : tbl [(42, s42), (43, s43), (44, s44), (45, s45), (46, s46)] 42 [.sl 1 (bytesL (c :: t)) .no, .int .u8 10] = some (.int .i64 (Lib.indexByte (c :: t) (10 : Int).toNat.toUInt8), []) := by
    rw [tbl_hit]
    exact s38_eq (by simp)
  rw [show (10 : Int).toNat.toUInt8 = 10 from rfl] at tb38
  have q3 : [AV.int .u8 3] = bytesL [3] := rfl
  have q234 : [AV.int .u8 2, AV.int .u8 3, AV.int .u8 4] = bytesL [2, 3, 4] := rfl
  refine ⟨⟨by omega, by omega⟩, (c.toNat : Int), ⟨hk, rfl⟩, ⟨by omega, by omega⟩, (cls c.toNat : Int), by simpa using hcg, fun h1 => ?_, fun h1 => ⟨fun h6 => ?_, fun h6 => ⟨fun h2 => ?_, fun h2 => ⟨fun h3 => ?_, fun h3 => ⟨fun h5 => ?_, fun h5 => ?_⟩⟩⟩⟩⟩
  · have hb : blankB c = true := hcls.b1.1 (by omega)
    simp only [piece, hb, if_true]
    exact ⟨trivial, by omega, trivial⟩
  · have hb : ¬ blankB c = true := fun h => h1 (by have := hcls.b1.2 h; omega)
    have h35 : (c == 35) = true := hcls.b6.1 (by omega)
    have h35' : c = 35 := by simpa using h35
    have hp : piece (c :: t) = (0, 1 + (t.takeWhile (· != 10)).length, 0) := by
      simp only [piece]; rw [if_neg hb, if_pos h35]
    rw [hp]
    dsimp only
    have hib := ib_take (l := c :: t) (x := 10)
    have hne : (c != 10) = true := by rw [h35']; rfl
    rw [List.takeWhile_cons, if_pos hne, List.length_cons, List.length_cons] at hib
    have hle := tw_le (p := (· != 10)) t
    refine ⟨by omega, ⟨by omega, Nat.le_refl _⟩, _, ⟨tb38⟩, fun hge => ⟨rfl, ?_, rfl⟩, fun hlt => ⟨rfl, ?_, rfl⟩⟩
    · rw [hib] at hge ⊢
      split at hge
      · rename_i hl'
        rw [if_pos hl', wrap64_in (by omega) (by omega)]
        omega
      · omega
    · rw [hib] at hlt
      split at hlt
      · omega
      · have : (t.takeWhile (· != 10)).length = t.length := by omega
        rw [this]
        omega
  · have hb : ¬ blankB c = true := fun h => h1 (by have := hcls.b1.2 h; omega)
    have h35 : ¬ (c == 35) = true := fun h => h6 (by have := hcls.b6.2 h; omega)
    have hle' : letterB c = true := hcls.b2.1 (by omega)
    have hp : piece (c :: t) = (1, 1 + (t.takeWhile innerB).length, if 24 < 1 + (t.takeWhile innerB).length then 2 else 0) := by
      simp only [piece]; rw [if_neg hb, if_neg h35, if_pos hle']
    rw [hp, runL_inner (letter_inner hle')]
    have hle := tw_le (p := innerB) t
    rw [show ((k : Int) + (1 + (t.takeWhile innerB).length : Nat) - k) = (1 + (t.takeWhile innerB).length : Nat) by omega, wrap64_in (by omega) (by omega)]
    refine ⟨⟨⟨all_p0_mono (by omega) h0, all_p0_mono (by omega) h2'⟩, ⟨bs, rfl, hl, by omega, by omega⟩, [2, 3, 4], q234, by simp⟩, fun h => ⟨rfl, rfl, ?_⟩, fun h => ⟨rfl, rfl, ?_⟩⟩
    · rw [if_pos (by omega)]
    · rw [if_neg (by omega)]
  · have hb : ¬ blankB c = true := fun h => h1 (by have := hcls.b1.2 h; omega)
    have h35 : ¬ (c == 35) = true := fun h => h6 (by have := hcls.b6.2 h; omega)
    have hle' : ¬ letterB c = true := fun h => h2 (by have := hcls.b2.2 h; omega)
    have hd : digitB c = true := hcls.b3.1 (by omega)
    rw [runL_digit hd]
    have hle := tw_le (p := digitB) t
    have hn : ∃ n, n = 1 + (t.takeWhile digitB).length := ⟨_, rfl⟩
    obtain ⟨n, hn⟩ := hn
    rw [← hn]
    have hkn : ((k : Int) + (n : Int)).toNat = k + n := by omega
    have hwn : IntKind.i64.wrap ((k : Int) + n + 1) = ((k + n + 1 : Nat) : Int) := by rw [wrap64_in (by omega) (by omega)]; omega
    simp only [hkn, hwn, Int.toNat_natCast, runL_digits]
    have hdig : (c :: t).take n = (c :: t).takeWhile digitB := by
      have : n = ((c :: t).takeWhile digitB).length := by rw [List.takeWhile_cons, if_pos hd, List.length_cons]; omega
      rw [this, take_tw]
    have hint : intB ((c :: t).take n) = true := by
      rw [hdig]
      simp only [intB, Bool.and_eq_true, decide_eq_true_eq]
      exact ⟨by rw [List.takeWhile_cons, if_pos hd]; simp, takeWhile_all _ _⟩
    have htk : ∀ j, ((bytesL bs).take (k + j)).drop k = bytesL ((c :: t).take j) := fun j => by
      rw [drop_take_bytes, List.drop_take, hct, Nat.add_sub_cancel_left]
    have tbi : tbl [(42, s42), (43, s43), (44, s44), (45, s45), (46, s46)] 43 [.int .i64 2, .str ((c :: t).take n)] = some (.int .i64 (intErr ((c :: t).take n)), []) := by
      rw [tb39]
      exact s39_int hint (by rw [List.length_take, List.length_cons]; omega)
    have hgn : bs.getD (k + n) 0 = t.getD (n - 1) 0 := by
      rw [← ht, getD_drop', show k + 1 + (n - 1) = k + n by omega]
    have hdrop : (c :: t).drop n = t.drop (n - 1) := by
      rw [hn, Nat.add_comm, List.drop_succ_cons]; rfl
    -- no point: an integer
    have pint : (∀ u, (c :: t).drop n = 46 :: u → (u.takeWhile digitB).length = 0) → piece (c :: t) = (2, n, intErr ((c :: t).take n)) := fun hno => by
      simp only [piece]; rw [if_neg hb, if_neg h35, if_neg hle', if_pos hd, ← hn]
      split
      · rename_i u hu
        rw [if_pos (hno u hu)]
      · rfl
    have fin : (∀ u, (c :: t).drop n = 46 :: u → (u.takeWhile digitB).length = 0) → 0 ≤ (k : Int) ∧ 0 ≤ (k : Int) + n ∧ (k ≤ k + n ∧ k + n ≤ bs.length) ∧ ∃ l, List.mapM byteOf (((bytesL bs).take (k + n)).drop k) = some l ∧ ∃ n_4, CallIs (tbl [(42, s42), (43, s43), (44, s44), (45, s45), (46, s46)] 43 [AV.int .i64 2, AV.str l]) (AV.int .i64 n_4) [] ∧ 2 = (piece (c :: t)).1 ∧ (k : Int) + n = k + (piece (c :: t)).2.1 ∧ n_4 = (piece (c :: t)).2.2 := fun hno => by
      rw [pint hno, htk]
      exact ⟨by omega, by omega, ⟨by omega, by omega⟩, _, mapByte _, _, ⟨tbi⟩, rfl, rfl, rfl⟩
    refine ⟨⟨⟨all_p0_mono (by omega) h0, all_p0_mono (by omega) h2'⟩, ⟨bs, rfl, hl, by omega, by omega⟩, [3], q3, by simp⟩, fun hlt => ⟨⟨by omega, by omega⟩, ((t.getD (n - 1) 0).toNat : Int), ⟨by omega, by rw [hgn]⟩, fun h46 => ⟨⟨⟨all_p0_mono (by omega) h0, all_p0_mono (by omega) h2'⟩, ⟨bs, rfl, hl, by omega, by omega⟩, [3], q3, by simp⟩, fun hgt => ⟨⟨⟨all_p0_mono (by omega) h0, all_p0_mono (by omega) h2'⟩, ⟨bs, rfl, hl, by omega, by omega⟩, [3], q3, by simp⟩, ?_⟩, fun hng => ?_⟩, fun h46 => ?_⟩, fun hge => ?_⟩
    · -- digits behind a point
      have h46' : t.getD (n - 1) 0 = 46 := by
        rw [← UInt8.toNat_inj]
        show (t.getD (n - 1) 0).toNat = 46
        omega
      have hkn' : k + n < bs.length := by omega
      have hbk : bs[k + n] = 46 := by
        have h9 : bs.getD (k + n) 0 = 46 := hgn.trans h46'
        rw [List.getD_eq_getElem?_getD, List.getElem?_eq_getElem hkn', Option.getD_some] at h9
        exact h9
      have hcu : (c :: t).drop n = 46 :: bs.drop (k + n + 1) := by
        rw [hdrop, ← ht, List.drop_drop, show k + 1 + (n - 1) = k + n by omega, List.drop_eq_getElem_cons hkn', hbk]
      have hm0 : (bs.drop (k + n + 1)).takeWhile digitB ≠ [] := by
        intro e; rw [e] at hgt; simp at hgt
      have hml := tw_le (p := digitB) (bs.drop (k + n + 1))
      rw [List.length_drop] at hml
      generalize hM : ((bs.drop (k + n + 1)).takeWhile digitB).length = M at *
      have hM1 : M ≠ 0 := by rw [← hM]; simpa using hm0
      have hp : piece (c :: t) = (3, n + 1 + M, decErr ((c :: t).take (n + 1 + M))) := by
        simp only [piece]; rw [if_neg hb, if_neg h35, if_neg hle', if_pos hd, ← hn, hcu]
        simp only
        rw [hM, if_neg hM1]
      have hlen : (c :: t).length = bs.length - k := by rw [← hct, List.length_drop]
      have e1 : (c :: t).take (n + 1 + M) = (c :: t).takeWhile digitB ++ 46 :: (bs.drop (k + n + 1)).takeWhile digitB := by
        have : (c :: t) = (c :: t).take n ++ (c :: t).drop n := (List.take_append_drop _ _).symm
        rw [hdig, hcu] at this
        have hln : ((c :: t).takeWhile digitB).length = n := by rw [← hdig, List.length_take]; omega
        conv => lhs; rw [this]
        rw [List.take_append, hln, List.take_of_length_le (by omega), show n + 1 + M - n = M + 1 by omega, List.take_succ_cons, ← hM, take_tw]
      have hdec : decB ((c :: t).take (n + 1 + M)) = true := by
        rw [e1]
        have ha := takeWhile_all digitB (c :: t)
        have hane : (c :: t).takeWhile digitB ≠ [] := by rw [List.takeWhile_cons, if_pos hd]; simp
        exact decB_mk ha hane (takeWhile_all _ _) hm0
      have tbd : tbl [(42, s42), (43, s43), (44, s44), (45, s45), (46, s46)] 43 [.int .i64 3, .str ((c :: t).take (n + 1 + M))] = some (.int .i64 (decErr ((c :: t).take (n + 1 + M))), []) := by
        rw [tb39]
        exact s39_dec hdec (by rw [List.length_take]; omega)
      rw [hp, show (((k + n + 1 : Nat) : Int) + (M : Int)).toNat = k + (n + 1 + M) by omega, htk]
      exact ⟨by omega, by omega, ⟨by omega, by omega⟩, _, mapByte _, _, ⟨tbd⟩, rfl, by dsimp only; omega, rfl⟩
    · refine fin fun u hu => ?_
      have hu' : u = bs.drop (k + n + 1) := by
        have h9 := congrArg (List.drop 1) hu
        rw [List.drop_drop, ← hct, List.drop_drop, show k + (n + 1) = k + n + 1 by omega] at h9
        simpa using h9.symm
      rw [hu']; omega
    · refine fin fun u hu => ?_
      exfalso
      apply h46
      have h9 : ((c :: t).drop n).getD 0 0 = 46 := by rw [hu]; rfl
      rw [hdrop, getD_drop', Nat.add_zero] at h9
      rw [h9]; rfl
    · refine fin fun u hu => ?_
      exfalso
      have h9 := congrArg List.length hu
      rw [List.length_drop, List.length_cons, List.length_cons] at h9
      omega
  · have hb : ¬ blankB c = true := fun h => h1 (by have := hcls.b1.2 h; omega)
    have h35 : ¬ (c == 35) = true := fun h => h6 (by have := hcls.b6.2 h; omega)
    have hle' : ¬ letterB c = true := fun h => h2 (by have := hcls.b2.2 h; omega)
    have hd : ¬ digitB c = true := fun h => h3 (by have := hcls.b3.2 h; omega)
    have hq : (c == 34) = true := hcls.b5.1 (by omega)
    have hL := tw_le (p := lineB) t
    have tb : tbl [(42, s42), (43, s43), (44, s44), (45, s45), (46, s46)] 44 [.sl 1 (bytesL t) .no, .str [34, 10]] = some (.int .i64 (if (t.takeWhile lineB).length < t.length then ((t.takeWhile lineB).length : Int) else -1), []) := by
      rw [tb40]; exact s40_eq (by omega)
    have hun : (∀ u, t.drop (t.takeWhile lineB).length ≠ 34 :: u) → piece (c :: t) = (-1, 1, 80) := fun hno => by
      simp only [piece]; rw [if_neg hb, if_neg h35, if_neg hle', if_neg hd, if_pos hq]
    refine ⟨by omega, ⟨by omega, Nat.le_refl _⟩, _, ⟨tb⟩, fun hneg => ?_, fun hnn => ?_⟩
    · have hge : ¬ (t.takeWhile lineB).length < t.length := by
        intro h; rw [if_pos h] at hneg; omega
      rw [hun fun u hu => by have := congrArg List.length hu; rw [List.length_drop, List.length_cons] at this; omega]
      exact ⟨rfl, by dsimp only; omega, rfl⟩
    · have hlt : (t.takeWhile lineB).length < t.length := by
        rcases Nat.lt_or_ge (t.takeWhile lineB).length t.length with h | h
        · exact h
        · rw [if_neg (by omega)] at hnn; omega
      rw [if_pos hlt]
      have hst := tw_at (p := lineB) hlt
      have htd : t.drop (t.takeWhile lineB).length = t.getD (t.takeWhile lineB).length 0 :: t.drop ((t.takeWhile lineB).length + 1) := by
        rw [List.drop_eq_getElem_cons hlt]; simp [hlt]
      have htw := take_tw (p := lineB) t
      generalize hLL : (t.takeWhile lineB).length = L at *
      have hw3 : IntKind.i64.wrap (((k + 1 : Nat) : Int) + L) = ((k + 1 + L : Nat) : Int) := by rw [wrap64_in (by omega) (by omega)]; omega
      have hw4 : IntKind.i64.wrap (IntKind.i64.wrap ((k : Int) + L) + 1) = ((k + 1 + L : Nat) : Int) := by rw [wrap64_in (n := (k : Int) + L) (by omega) (by omega), wrap64_in (by omega) (by omega)]; omega
      have hw5 : IntKind.i64.wrap (IntKind.i64.wrap ((k : Int) + L) + 2) = ((k + 2 + L : Nat) : Int) := by rw [wrap64_in (n := (k : Int) + L) (by omega) (by omega), wrap64_in (by omega) (by omega)]; omega
      simp only [hw3, hw4, hw5, Int.toNat_natCast]
      have hbx : bs.getD (k + 1 + L) 0 = t.getD L 0 := by rw [← ht, getD_drop']
      rw [hbx]
      generalize hx : t.getD L 0 = x at *
      have hx2 : x = 34 ∨ x = 10 := by
        simp only [lineB, Bool.and_eq_false_iff, bne_eq_false_iff_eq] at hst
        exact hst
      refine ⟨⟨by omega, by omega⟩, (x.toNat : Int), ⟨by omega, rfl⟩, fun h10 => ?_, fun h10 => ?_⟩
      · have hx10 : x = 10 := by rw [← UInt8.toNat_inj]; show x.toNat = 10; omega
        rw [hun fun u hu => by rw [htd, hx10] at hu; simp at hu]
        exact ⟨rfl, by dsimp only; omega, rfl⟩
      · have hx34 : x = 34 := by
          rcases hx2 with h | h
          · exact h
          · rw [h] at h10; exact absurd rfl h10
        have hp : piece (c :: t) = (4, L + 2, txtErr (t.takeWhile lineB)) := by
          simp only [piece]; rw [if_neg hb, if_neg h35, if_neg hle', if_neg hd, if_pos hq, hLL, htd, hx34]
          rfl
        have e1 : ((bytesL bs).take (k + 1 + L)).drop (k + 1) = bytesL (t.takeWhile lineB) := by
          rw [drop_take_bytes, List.drop_take, ht, Nat.add_sub_cancel_left, htw]
        have tb4 : tbl [(42, s42), (43, s43), (44, s44), (45, s45), (46, s46)] 45 [.sl 1 (bytesL (t.takeWhile lineB)) .no] = some (.int .i64 (txtErr (t.takeWhile lineB)), []) := by
          rw [tb41]; exact s41_eq (by omega)
        rw [hp, e1]
        exact ⟨by omega, by omega, ⟨by omega, by omega⟩, _, ⟨tb4⟩, rfl, by dsimp only; omega, rfl⟩
  · refine ⟨fun h7 => ?_, fun h7 => ⟨fun h8 => ?_, fun h8 => ?_⟩⟩
    · have hs : signB c = true ∨ (c == 33) = true := .inl (hcls.b7.1 (by omega))
      have hb : ¬ blankB c = true := fun h => h1 (by have := hcls.b1.2 h; omega)
      have h35 : ¬ (c == 35) = true := fun h => h6 (by have := hcls.b6.2 h; omega)
      have hle' : ¬ letterB c = true := fun h => h2 (by have := hcls.b2.2 h; omega)
      have hd : ¬ digitB c = true := fun h => h3 (by have := hcls.b3.2 h; omega)
      have hq : ¬ (c == 34) = true := fun h => h5 (by have := hcls.b5.2 h; omega)
      have hw2 : IntKind.i64.wrap (((k + 1 : Nat) : Int) + 1) = ((k + 2 : Nat) : Int) := by rw [wrap64_in (by omega) (by omega)]; omega
      simp only [hw2]
      have last : ¬ (eqB c && (t.head?.getD 0 == 61)) = true → (¬ (c.toNat : Int) = 33 → 5 = (piece (c :: t)).1 ∧ ((k + 1 : Nat) : Int) = k + (piece (c :: t)).2.1 ∧ 0 = (piece (c :: t)).2.2) ∧ ((c.toNat : Int) = 33 → -1 = (piece (c :: t)).1 ∧ ((k + 1 : Nat) : Int) = k + (piece (c :: t)).2.1 ∧ 80 = (piece (c :: t)).2.2) := fun hne => by
        constructor
        · intro h33
          have hsg : signB c = true := by
            rcases hs with hs | hs
            · exact hs
            · exact absurd (by rw [show c = 33 by simpa using hs]; rfl) h33
          have hp : piece (c :: t) = (5, 1, 0) := by
            simp only [piece]; rw [if_neg hb, if_neg h35, if_neg hle', if_neg hd, if_neg hq, if_neg hne, if_pos hsg]
          rw [hp]
          exact ⟨rfl, by dsimp only; omega, rfl⟩
        · intro h33
          have hc33 : c = 33 := by rw [← UInt8.toNat_inj]; show c.toNat = 33; omega
          have hsg : ¬ signB c = true := by rw [hc33]; decide
          have hp : piece (c :: t) = (-1, 1, 80) := by
            simp only [piece]; rw [if_neg hb, if_neg h35, if_neg hle', if_neg hd, if_neg hq, if_neg hne, if_neg hsg]
          rw [hp]
          exact ⟨rfl, by dsimp only; omega, rfl⟩
      refine ⟨fun hlt => ⟨⟨by omega, by omega⟩, ((bs.getD (k + 1) 0).toNat : Int), ⟨by omega, rfl⟩, fun h61 => ⟨⟨by omega, by omega⟩, (c.toNat : Int), ⟨hk, rfl⟩, _, ⟨rfl⟩, fun hge => ?_, fun hng => ⟨⟨by omega, by omega⟩, (c.toNat : Int), ⟨hk, rfl⟩, ?_⟩⟩, fun h61 => ⟨⟨by omega, by omega⟩, (c.toNat : Int), ⟨hk, rfl⟩, ?_⟩⟩, fun hge => ⟨⟨by omega, by omega⟩, (c.toNat : Int), ⟨hk, rfl⟩, ?_⟩⟩
      · have hh : t.head?.getD 0 = 61 := by
          have : (bs.getD (k + 1) 0) = 61 := by rw [← UInt8.toNat_inj]; show (bs.getD (k + 1) 0).toNat = 61; omega
          rw [← this, ← ht, List.head?_drop, List.getD_eq_getElem?_getD]
        have heq : eqB c = true := by
          rw [ib_ge, Int.toNat_natCast, UInt8.toUInt8_toNat'] at hge
          simp only [List.mem_cons, List.not_mem_nil, or_false] at hge
          simp only [eqB, Bool.or_eq_true, beq_iff_eq]
          rcases hge with h | h | h <;> simp [h]
        have hp : piece (c :: t) = (5, 2, 0) := by
          simp only [piece]; rw [if_neg hb, if_neg h35, if_neg hle', if_neg hd, if_neg hq, if_pos (by simp [heq, hh])]
        rw [hp]
        exact ⟨rfl, by dsimp only; omega, rfl⟩
      · refine last fun h => hng ?_
        simp only [Bool.and_eq_true] at h
        have heq := h.1
        simp only [eqB, Bool.or_eq_true, beq_iff_eq] at heq
        rw [ib_ge, Int.toNat_natCast, UInt8.toUInt8_toNat']
        rcases heq with (h | h) | h <;> simp [h]
      · refine last fun h => h61 ?_
        simp only [Bool.and_eq_true, beq_iff_eq] at h
        have hh := h.2
        rw [← ht, List.head?_drop, ← List.getD_eq_getElem?_getD] at hh
        rw [hh]; rfl
      · refine last fun h => ?_
        simp only [Bool.and_eq_true, beq_iff_eq] at h
        have hh := h.2
        have : t = [] := List.length_eq_zero_iff.1 (by omega)
        rw [this] at hh
        simp at hh
    · have hs : signB c = true ∨ (c == 33) = true := .inr (hcls.b8.1 (by omega))
      have hb : ¬ blankB c = true := fun h => h1 (by have := hcls.b1.2 h; omega)
      have h35 : ¬ (c == 35) = true := fun h => h6 (by have := hcls.b6.2 h; omega)
      have hle' : ¬ letterB c = true := fun h => h2 (by have := hcls.b2.2 h; omega)
      have hd : ¬ digitB c = true := fun h => h3 (by have := hcls.b3.2 h; omega)
      have hq : ¬ (c == 34) = true := fun h => h5 (by have := hcls.b5.2 h; omega)
      have hw2 : IntKind.i64.wrap (((k + 1 : Nat) : Int) + 1) = ((k + 2 : Nat) : Int) := by rw [wrap64_in (by omega) (by omega)]; omega
      simp only [hw2]
      have last : ¬ (eqB c && (t.head?.getD 0 == 61)) = true → (¬ (c.toNat : Int) = 33 → 5 = (piece (c :: t)).1 ∧ ((k + 1 : Nat) : Int) = k + (piece (c :: t)).2.1 ∧ 0 = (piece (c :: t)).2.2) ∧ ((c.toNat : Int) = 33 → -1 = (piece (c :: t)).1 ∧ ((k + 1 : Nat) : Int) = k + (piece (c :: t)).2.1 ∧ 80 = (piece (c :: t)).2.2) := fun hne => by
        constructor
        · intro h33
          have hsg : signB c = true := by
            rcases hs with hs | hs
            · exact hs
            · exact absurd (by rw [show c = 33 by simpa using hs]; rfl) h33
          have hp : piece (c :: t) = (5, 1, 0) := by
            simp only [piece]; rw [if_neg hb, if_neg h35, if_neg hle', if_neg hd, if_neg hq, if_neg hne, if_pos hsg]
          rw [hp]
          exact ⟨rfl, by dsimp only; omega, rfl⟩
        · intro h33
          have hc33 : c = 33 := by rw [← UInt8.toNat_inj]; show c.toNat = 33; omega
          have hsg : ¬ signB c = true := by rw [hc33]; decide
          have hp : piece (c :: t) = (-1, 1, 80) := by
            simp only [piece]; rw [if_neg hb, if_neg h35, if_neg hle', if_neg hd, if_neg hq, if_neg hne, if_neg hsg]
          rw [hp]
          exact ⟨rfl, by dsimp only; omega, rfl⟩
      refine ⟨fun hlt => ⟨⟨by omega, by omega⟩, ((bs.getD (k + 1) 0).toNat : Int), ⟨by omega, rfl⟩, fun h61 => ⟨⟨by omega, by omega⟩, (c.toNat : Int), ⟨hk, rfl⟩, _, ⟨rfl⟩, fun hge => ?_, fun hng => ⟨⟨by omega, by omega⟩, (c.toNat : Int), ⟨hk, rfl⟩, ?_⟩⟩, fun h61 => ⟨⟨by omega, by omega⟩, (c.toNat : Int), ⟨hk, rfl⟩, ?_⟩⟩, fun hge => ⟨⟨by omega, by omega⟩, (c.toNat : Int), ⟨hk, rfl⟩, ?_⟩⟩
      · have hh : t.head?.getD 0 = 61 := by
          have : (bs.getD (k + 1) 0) = 61 := by rw [← UInt8.toNat_inj]; show (bs.getD (k + 1) 0).toNat = 61; omega
          rw [← this, ← ht, List.head?_drop, List.getD_eq_getElem?_getD]
        have heq : eqB c = true := by
          rw [ib_ge, Int.toNat_natCast, UInt8.toUInt8_toNat'] at hge
          simp only [List.mem_cons, List.not_mem_nil, or_false] at hge
          simp only [eqB, Bool.or_eq_true, beq_iff_eq]
          rcases hge with h | h | h <;> simp [h]
        have hp : piece (c :: t) = (5, 2, 0) := by
          simp only [piece]; rw [if_neg hb, if_neg h35, if_neg hle', if_neg hd, if_neg hq, if_pos (by simp [heq, hh])]
        rw [hp]
        exact ⟨rfl, by dsimp only; omega, rfl⟩
      · refine last fun h => hng ?_
        simp only [Bool.and_eq_true] at h
        have heq := h.1
        simp only [eqB, Bool.or_eq_true, beq_iff_eq] at heq
        rw [ib_ge, Int.toNat_natCast, UInt8.toUInt8_toNat']
        rcases heq with (h | h) | h <;> simp [h]
      · refine last fun h => h61 ?_
        simp only [Bool.and_eq_true, beq_iff_eq] at h
        have hh := h.2
        rw [← ht, List.head?_drop, ← List.getD_eq_getElem?_getD] at hh
        rw [hh]; rfl
      · refine last fun h => ?_
        simp only [Bool.and_eq_true, beq_iff_eq] at h
        have hh := h.2
        have : t = [] := List.length_eq_zero_iff.1 (by omega)
        rw [this] at hh
        simp at hh
    · have hb : ¬ blankB c = true := fun h => h1 (by have := hcls.b1.2 h; omega)
      have h35 : ¬ (c == 35) = true := fun h => h6 (by have := hcls.b6.2 h; omega)
      have hle' : ¬ letterB c = true := fun h => h2 (by have := hcls.b2.2 h; omega)
      have hd : ¬ digitB c = true := fun h => h3 (by have := hcls.b3.2 h; omega)
      have hq : ¬ (c == 34) = true := fun h => h5 (by have := hcls.b5.2 h; omega)
      have hsg : ¬ signB c = true := fun h => h7 (by have := hcls.b7.2 h; omega)
      have h33 : ¬ (c == 33) = true := fun h => h8 (by have := hcls.b8.2 h; omega)
      have hne : ¬ (eqB c && (t.head?.getD 0 == 61)) = true := by
        intro h
        simp only [Bool.and_eq_true, eqB, Bool.or_eq_true, beq_iff_eq] at h
        rcases h.1 with (h | h) | h
        · exact hsg (by rw [h]; decide)
        · exact h33 (by rw [h]; rfl)
        · exact hsg (by rw [h]; decide)
      have hp : piece (c :: t) = (-1, 1, 80) := by
        simp only [piece]; rw [if_neg hb, if_neg h35, if_neg hle', if_neg hd, if_neg hq, if_neg hne, if_neg hsg]
      rw [hp]
      exact ⟨rfl, by dsimp only; omega, rfl⟩
end Go.Abs

namespace Go.Abs
open Go.Proofs L8
theorem w43 (m k : Int) (l : List UInt8) : (pureW PP (G8 m) XL (tbl [(8, s8'), (30, s30')]) (itbl []) nAn [] 43 [.int .i64 k, .str l] (.int .i64 (if k = 3 then decErr l else intErr l), [])) =
(((k == (3 : Int)) = true →
    ∃ (n : Int),
      ∃ (n_1 : Int),
        CallIs (tbl [(nat_lit 8, s8'), (nat_lit 30, s30')] (nat_lit 8) [AV.str l]) (AV.tup [AV.int IntKind.i64 n, AV.int IntKind.i64 n_1]) [] ∧
 RetIs (AV.int IntKind.i64 n_1) [] (AV.int IntKind.i64 (if k = (3 : Int) then decErr l else intErr l), [])) ∧
  ((k == (3 : Int)) = false →
    ∃ (n : Int),
      CallIs (tbl [(nat_lit 8, s8'), (nat_lit 30, s30')] (nat_lit 30) [AV.str l]) (AV.tup [AV.int IntKind.i64 n, AV.ifc]) [] ∧
 (true = true → RetIs (AV.int IntKind.i64 (2 : Int)) [] (AV.int IntKind.i64 (if k = (3 : Int) then decErr l else intErr l), [])) ∧
 (true = false →
 (decide (n > (1152921504606846976 : Int)) = true →
 RetIs (AV.int IntKind.i64 (2 : Int)) [] (AV.int IntKind.i64 (if k = (3 : Int) then decErr l else intErr l), [])) ∧
 (decide (n > (1152921504606846976 : Int)) = false →
 RetIs (AV.int IntKind.i64 (0 : Int)) [] (AV.int IntKind.i64 (if k = (3 : Int) then decErr l else intErr l), []))) ∨
        CallIs (tbl [(nat_lit 8, s8'), (nat_lit 30, s30')] (nat_lit 30) [AV.str l]) (AV.tup [AV.int IntKind.i64 n, AV.lit Value.nilIface]) [] ∧
 (false = true → RetIs (AV.int IntKind.i64 (2 : Int)) [] (AV.int IntKind.i64 (if k = (3 : Int) then decErr l else intErr l), [])) ∧
 (false = false →
 (decide (n > (1152921504606846976 : Int)) = true →
 RetIs (AV.int IntKind.i64 (2 : Int)) [] (AV.int IntKind.i64 (if k = (3 : Int) then decErr l else intErr l), [])) ∧
 (decide (n > (1152921504606846976 : Int)) = false →
 RetIs (AV.int IntKind.i64 (0 : Int)) [] (AV.int IntKind.i64 (if k = (3 : Int) then decErr l else intErr l), []))))) := by kernel_rfl
end Go.Abs

namespace Go.Abs
open Go.Proofs L8

theorem intErr_le (l : List UInt8) : intErr l = if valL l ≤ 1152921504606846976 then 0 else 2 := by
  simp only [intErr]
  by_cases h : valL l ≤ 1152921504606846976
  · rw [if_neg (by omega), if_pos h]
  · rw [if_pos (by omega), if_neg h]
theorem p43d (m : Int) (l : List UInt8) (h : decB l = true) (hl : l.length ≤ 1000000) : PureOk PP (G8 m) XL (tbl [(8, s8'), (30, s30')]) (itbl []) nAn [] 43 [.int .i64 3, .str l] (.int .i64 (decErr l), []) := by
  constructor
  have hw := w43 m 3 l
  rw [if_pos rfl] at hw
  rw [hw]
  have t51 : tbl [(8, s8'), (30, s30')] 8 [.str l] = some (.tup [.int .i64 (if decErr l = 0 then decVal l else 0), .int .i64 (decErr l)], []) := by
    rw [tbl_hit]; simp only [s8']; rw [if_pos ⟨hl, h⟩]
  exact ⟨fun _ => ⟨_, _, ⟨t51⟩, ⟨rfl⟩⟩, fun h => absurd h (by decide)⟩
theorem p43i (m : Int) (l : List UInt8) (h : intB l = true) (hl : l.length ≤ 1000000) : PureOk PP (G8 m) XL (tbl [(8, s8'), (30, s30')]) (itbl []) nAn [] 43 [.int .i64 2, .str l] (.int .i64 (intErr l), []) := by
  constructor
  have hw := w43 m 2 l
  rw [if_neg (by decide)] at hw
  rw [hw]
  have t52 : tbl [(8, s8'), (30, s30')] 30 [.str l] = if valL l ≤ 9223372036854775807 then some (.tup [.int .i64 (valL l), .lit .nilIface], []) else some (.tup [.int .i64 9223372036854775807, .ifc], []) := by
    rw [tbl_miss (fun h => absurd h (by decide)), tbl_hit]; simp only [s30']; rw [if_pos ⟨hl, h⟩]
    split <;> rfl
  refine ⟨fun h => absurd h (by decide), fun _ => ?_⟩
  rw [t52, intErr_le]
  by_cases h63 : valL l ≤ 9223372036854775807
  · rw [if_pos h63]
    refine ⟨(valL l : Int), .inr ⟨⟨rfl⟩, fun h => absurd h (by decide), fun _ => ⟨fun h => ?_, fun h => ?_⟩⟩⟩
    · have := of_decide_eq_true h
      rw [if_neg (by omega)]; exact ⟨rfl⟩
    · have := of_decide_eq_false h
      rw [if_pos (by omega)]; exact ⟨rfl⟩
  · rw [if_neg h63]
    refine ⟨9223372036854775807, .inl ⟨⟨rfl⟩, fun _ => ?_, fun h => absurd h (by decide)⟩⟩
    rw [if_neg (by omega)]; exact ⟨rfl⟩

theorem o25 (m : Int) : ISpecOk PP (G8 m) 25 s25 := ispec_of (X := XL) (m := []) mixed8 tbl_nil itbl_nil fun args S p r h hp => by
  unfold s25 at h
  split at h
  · simp only [Option.some.injEq, Prod.mk.injEq] at h
    obtain ⟨h1, h2⟩ := h
    subst h1
    obtain ⟨k1, k2, k3⟩ := hp
    subst k2
    rw [← h2]
    exact ⟨nAn, p25 m _ _ _ _ _ k1 k3⟩
  · cases h
theorem o42 (m : Int) : SpecOk PP (G8 m) 42 s42 := spec_of (X := XL) (m := []) mixed8 (lib8_ok m) itbl_nil fun args r h => by
  have key : ∀ sz es c (o : Own), (o = .no ∨ o = .full) → (if sz = 1 ∧ es ≠ [] then onBytes es fun bs => some (AV.int .i64 (Lib.indexByte bs (c : Int).toNat.toUInt8), ([] : List (Nat × TypeId))) else none) = some r → ∃ A, PureOk PP (G8 m) XL (tbl lib8) (itbl []) A [] 42 [.sl sz es o, .int .u8 c] r := fun sz es c o ho h => by
    split at h
    · rename_i hc
      obtain ⟨rfl, hne⟩ := hc
      unfold onBytes at h
      split at h
      · rename_i bs hb
        obtain rfl := unBytes_some hb
        injection h with h
        subst h
        have hbs : bs ≠ [] := by rintro rfl; exact hne rfl
        rcases ho with rfl | rfl
        · exact ⟨nAn, p42 m c bs hbs⟩
        · exact ⟨nAn, p42f m c bs hbs⟩
      · cases h
    · cases h
  unfold s42 at h
  split at h
  · exact key _ _ _ _ (.inl rfl) h
  · exact key _ _ _ _ (.inr rfl) h
  · cases h
theorem o69 (m : Int) : SpecOk PP (G8 m) 69 sIndexByteString := spec_of (X := XL) (m := []) mixed8 (lib8_ok m) itbl_nil fun args r h => by
  unfold sIndexByteString at h
  split at h
  · injection h with h; subst h; exact ⟨nAn, p69 m _ _⟩
  · cases h
theorem o46 (m : Int) : SpecOk PP (G8 m) 46 s46 := spec_of (X := XL) (m := []) mixed8 (tbl_cons (o69 m) tbl_nil) itbl_nil fun args r h => by
  unfold s46 sIndexByteString at h
  split at h
  · injection h with h; subst h; exact ⟨nAn, p46 m _ _⟩
  · cases h
theorem o45 (m : Int) : SpecOk PP (G8 m) 45 s45 := spec_of (X := XL) (m := []) mixed8 tbl_nil itbl_nil fun args r h => by
  unfold s45 at h
  split at h
  · split at h
    · rename_i hsz
      subst hsz
      unfold onBytes at h
      split at h
      · rename_i bs hb
        obtain rfl := unBytes_some hb
        simp only at h
        split at h
        · rename_i hl
          injection h with h; subst h; exact ⟨a45 bs, p45 m bs 1 rfl hl⟩
        · cases h
      · cases h
    · cases h
  · cases h
theorem o43 (m : Int) (h8 : SpecOk PP (G8 m) 8 s8') (h30 : SpecOk PP (G8 m) 30 s30') : SpecOk PP (G8 m) 43 s43 := spec_of (X := XL) (m := []) mixed8 (tbl_cons h8 (tbl_cons h30 tbl_nil)) itbl_nil fun args r h => by
  unfold s43 at h
  split at h
  · split at h
    · rename_i hl
      split at h
      · rename_i hd
        obtain ⟨rfl, hd⟩ := hd
        injection h with h; subst h; exact ⟨nAn, p43d m _ hd hl⟩
      · split at h
        · rename_i hd
          obtain ⟨rfl, hd⟩ := hd
          injection h with h; subst h; exact ⟨nAn, p43i m _ hd hl⟩
        · cases h
    · cases h
  · cases h
theorem o41 (m : Int) : ISpecOk PP (G8 m) 41 s41 := ispec_of (X := XL) (m := []) mixed8 (tbl_cons (o42 m) tbl_nil) itbl_nil fun args S p r h hp => by
  unfold s41 at h
  split at h
  · simp only [Option.some.injEq, Prod.mk.injEq] at h
    obtain ⟨h1, h2⟩ := h
    subst h1
    obtain ⟨rfl, ⟨k1, k2⟩, ⟨bs, rfl, k3, k4, k5⟩, qs, rfl, k6⟩ := hp
    rw [← h2, bytesD_mk]
    exact ⟨_, p41 m _ qs bs _ _ _ _ k1 k2 k4 k5 k3 k6⟩
  · cases h
theorem o26 (m : Int) (h43 : SpecOk PP (G8 m) 43 s43) (h44 : SpecOk PP (G8 m) 44 s44) : ISpecOk PP (G8 m) 26 s26 := ispec_of (X := XL) (m := []) mixed8 (tbl_cons (o42 m) (tbl_cons h43 (tbl_cons h44 (tbl_cons (o45 m) (tbl_cons (o46 m) tbl_nil))))) (itbl_cons (o41 m) itbl_nil) fun args S p r h hp => by
  unfold s26 at h
  split at h
  · rename_i es n b0 cs b2 p1 q1
    simp only [Option.some.injEq, Prod.mk.injEq] at h
    obtain ⟨h1, h2⟩ := h
    subst h1
    obtain ⟨rfl, ⟨k1, k2⟩, bs, rfl, k3, k4, k5⟩ := hp
    rw [← h2, bytesD_mk]
    obtain ⟨k, rfl⟩ : ∃ k : Nat, n = k := ⟨n.toNat, by omega⟩
    exact ⟨_, p26 m k bs _ _ _ _ k1 k2 (by omega) k3⟩
  · cases h
def s7 : Spec := fun args => match args with
  | [.sl sz es .no] => if sz = 1 then onBytes es fun bs => some (r7 bs) else none
  | _ => none
theorem o24k (m : Int) : SpecOk PP (G8 m) 24 s24k := spec_run mixed8 (lib8_ok m) fun args r h => by
  unfold s24k at h
  split at h
  · injection h with h; subst h; exact ⟨60, run24 m⟩
  · cases h
theorem o7 (m : Int) (h43 : SpecOk PP (G8 m) 43 s43) (h44 : SpecOk PP (G8 m) 44 s44) : SpecOk PP (G8 m) 7 s7 := lax_of (X := XL) (m := []) mixed8 (tbl_cons (o24k m) tbl_nil) (itbl_cons (o25 m) (itbl_cons (o26 m h43 h44) itbl_nil)) fun args r h => by
  unfold s7 at h
  split at h
  · split at h
    · rename_i hsz
      subst hsz
      unfold onBytes at h
      split at h
      · rename_i bs hb
        obtain rfl := unBytes_some hb
        injection h with h; subst h; exact ⟨a7 bs, p7 m bs⟩
      · cases h
    · cases h
  · cases h
end Go.Abs

namespace Go.Abs
open Go.Proofs L8 Go.RowKit

section
variable {P : Program} {G : Glob} {E : Env} {w w' : World}
theorem glob_ifc {g : Nat} (hG : GlobOk G E w) (h : G g = some .ifc) : ∃ t x, w.cell? ⟨g, 0, none⟩ = some (.iface t x) := by
  have := (hG g _ h).2.1
  generalize hv : Value.pointer (some ⟨g, 0, none⟩) = v at this
  cases this with | elt _ _ _ _ b off u hcl hA hr h1 =>
  injection hv with hv
  injection hv with hv
  injection hv with h2 h3
  subst h2
  obtain ⟨_, h4⟩ := hA 0 _ 0 _ rfl rfl
  obtain ⟨t, x, h5⟩ := rep_ifc (hr 0 _ 0 _ rfl rfl)
  refine ⟨t, x, ?_⟩
  rw [← h5, ← h4]
  congr 2
theorem rep_tup2 {a b : AV} {u v : Value} (h1 : Rep E w a u) (h2 : Rep E w b v) : Rep E w (.tup [a, b]) (.tuple #[u, v]) := by
  refine .tup _ _ rfl fun i c x hc hx => ?_
  match i, hc, hx with
  | 0, hc, hx => simp at hc hx; subst hc; subst hx; exact h1
  | 1, hc, hx => simp at hc hx; subst hc; subst hx; exact h2
  | i + 2, hc, hx => simp at hc
theorem vs_one' {vs : Array Value} (h : vs.size = 1) : ∃ a, vs = #[a] := vs_one h
end

theorem o30 (m : Int) : SpecOk PP (G8 m) 30 s30' := by
  intro g args r lv h E w vs hI hG hn' hv hcl
  simp only at h
  split at h
  case isFalse => cases h
  case isTrue e =>
  subst e
  unfold s30' at h
  split at h
  case h_2 => cases h
  case h_1 l =>
  split at h
  case isFalse => cases h
  case isTrue hl =>
  obtain ⟨hl, hi⟩ := hl
  obtain ⟨a, rfl⟩ := vs_one' hn'
  obtain ⟨s, rfl, hs⟩ := rep_str (hv 0 _ _ rfl rfl)
  have hsz : s.size = l.length := by rw [size_data, hs]
  have ha := atoi_digits hi
  by_cases h63 : valL l ≤ 9223372036854775807
  · rw [if_pos h63] at h ha
    simp only [Option.some.injEq, Prod.mk.injEq] at h
    obtain ⟨rfl, rfl⟩ := h
    refine .inl ⟨good8 (by kernel_rfl), (Tryz.strconv_Atoi_ok s (by omega) (valL l) (by rw [hs]; exact ha) w).mono fun e w' ⟨he, hw⟩ => ⟨_, he, ?_⟩⟩
    have hb : Below w.heap.size w w' := by
      rcases hw with rfl | ⟨t, rfl⟩
      · exact Below.refl _ _
      · exact Lib.bytesWorld_below _ _ _
    exact res_below hb fun B K => rep_tup2 (.int _ _) (.lit _ rfl)
  · rw [if_neg h63] at h ha
    simp only [Option.some.injEq, Prod.mk.injEq] at h
    obtain ⟨rfl, rfl⟩ := h
    obtain ⟨t, x, hx⟩ := glob_ifc (g := 3) hG rfl
    refine .inl ⟨good8 (by kernel_rfl), (Tryz.strconv_Atoi_range s (by omega) (by rw [hs]; exact ha) _ w hx (.inr ⟨t, x, rfl⟩)).mono fun e w' ⟨N, he, _, _, hb⟩ => ⟨_, he, ?_⟩⟩
    have hsat : Lib.atoiSat s.data.toList = 9223372036854775807 := by
      rw [hs, Lib.atoiSat, if_neg]
      cases l with
      | nil => simp
      | cons c t =>
        simp only [intB, Bool.and_eq_true, List.all_cons, digitB_iff] at hi
        simp
        omega
    rw [hsat]
    exact res_below hb fun B K => rep_tup2 (.int _ _) (.ifc _ _)
end Go.Abs

namespace Go.Abs
open Go.Proofs L8

theorem dfold_succ {r : List UInt8} {i : Nat} (h : i < r.length) : dfold (r.take (i + 1)) = dstep (dfold (r.take i)) r[i] := by
  unfold dfold
  rw [List.take_succ_eq_append_getElem h, List.foldl_append]
  rfl
theorem dfold_fail {r : List UInt8} {i : Nat} (h : i < r.length) (hn : dstep (dfold (r.take i)) r[i] = none) : dfold r = none := by
  have e : r = r.take (i + 1) ++ r.drop (i + 1) := (List.take_append_drop _ _).symm
  have := dfold_succ h
  rw [hn] at this
  conv => lhs; rw [e]
  unfold dfold at this ⊢
  rw [List.foldl_append, this, dfold_none]
theorem valL_snoc (l : List UInt8) (c : UInt8) : valL (l ++ [c]) = 10 * valL l + (c.toNat - 48) := by simp [valL]
theorem tens_at {j : Nat} (h : j ≤ 6) : takeAt PP 3 [tensA] 0 j = some (.int .i64 ((10 ^ j : Nat) : Int)) := by
  have ha : aggA PP 3 = some false := by kernel_rfl
  have hs : ∃ s, sizeA PP 3 = some s := ⟨1, by kernel_rfl⟩
  obtain ⟨s, hs⟩ := hs
  match j, h with
  | 0, _ | 1, _ | 2, _ | 3, _ | 4, _ | 5, _ | 6, _ => simp only [takeAt, List.getElem?_cons_zero, ha, hs, takeA, tensA, AV.cells]; rfl
theorem tdiv10 {x d : Int} (_hx : 0 ≤ x) (hd : 0 ≤ d) (hd9 : d ≤ 9) : (IntKind.i64.wrap ((IntKind.i64.wrap (1152921504606846976 - IntKind.i64.wrap d)).tdiv 10) < x) ↔ 1152921504606846976 < 10 * x + d := by
  rw [wrap64_in (n := d) (by omega) (by omega), wrap64_in (n := 1152921504606846976 - d) (by omega) (by omega), Int.tdiv_eq_ediv_of_nonneg (by omega), wrap64_in (by omega) (by omega)]
  omega
theorem tdivp {x : Int} {p : Nat} (_hx : 0 ≤ x) (hp : 0 < p) (hp6 : p ≤ 1000000) : (IntKind.i64.wrap (Int.tdiv 1152921504606846976 p) < x) ↔ 1152921504606846976 < x * p := by
  rw [Int.tdiv_eq_ediv_of_nonneg (by omega)]
  have h1 : (1152921504606846976 : Int) / p ≤ 1152921504606846976 := Int.ediv_le_self _ (by omega)
  have h2 : (0 : Int) ≤ 1152921504606846976 / p := Int.ediv_nonneg (by omega) (by omega)
  rw [wrap64_in (by omega) (by omega), Int.ediv_lt_iff_lt_mul (by omega)]

theorem wrap8_in {n : Int} (h0 : 0 ≤ n) (h1 : n < 256) : IntKind.u8.wrap n = n := by
  simp only [IntKind.wrap, IntKind.bits, IntKind.signed]
  simp
  omega
theorem p8 (m : Int) (s : List UInt8) (hl : s.length ≤ 1000000) : PureOk PP (G8 m) XL (tbl []) (itbl []) (a8 s) [] 8 [.str s] (.tup [.int .i64 (decP s).1, .int .i64 (decP s).2], []) := by
  constructor
  rw [w8]
  have hdec : decP s = decR (negB s) (restB s) := rfl
  have hrl : (restB s).length ≤ 1000000 := by
    unfold restB; split
    · rw [List.length_drop]; omega
    · exact hl
  have fail : dfold (restB s) = none → decP s = (0, 3) := fun h => by rw [hdec, decR, h]
  simp only [valsAre_iff, stIs_iff, retIs_iff, decide_eq_true_eq, decide_eq_false_iff_not, gt_iff_lt, ge_iff_le, List.cons.injEq, AV.int.injEq, AV.tup.injEq, AV.str.injEq, AV.bool.injEq, Prod.mk.injEq, and_true, true_and, beq_iff_eq, beq_eq_false_iff_ne, ne_eq, Bool.not_eq_true', Bool.not_eq_false', Int.toNat_natCast, Nat.zero_add, Nat.mul_one, true_implies]
  have hptv : ∀ (x : X8), Inv8 (restB s) x → (ptv x.i x.k < 0 ↔ x.k = none) := fun x hx => by
    cases hk : x.k with
    | none => simp [ptv]
    | some j =>
      have := (hx.k j hk).1
      simp only [ptv, reduceCtorEq, iff_false]
      omega
  have hstep : ∀ (i : Nat) (k : Option Nat), ptv i k = ptv (i + 1) (k.map (· + 1)) := fun i k => by
    cases k with
    | none => rfl
    | some j => simp only [ptv, Option.map_some]; omega
  refine ⟨⟨fun hne => ⟨by omega, ?_⟩, fun he => ⟨(), ?_, ?_⟩⟩, fun _ => ⟨⟨⟨⟨0, [], none, 0, false⟩, ⟨rfl, rfl, rfl, rfl⟩, ?_⟩, fun x hx => ?_⟩, fun x hx => ?_⟩⟩
  · cases s with
    | nil => exact absurd rfl hne
    | cons c t =>
      refine ⟨c, rfl, fun h => ⟨by omega, ⟨by simp, Nat.le_refl _⟩, (), ?_, ?_⟩, fun h => ⟨(), ?_, ?_⟩⟩
      · have hc : c = 45 := by rw [← UInt8.toNat_inj]; show c.toNat = 45; omega
        simp [restB, negB, hc]
      · have hc : c = 45 := by rw [← UInt8.toNat_inj]; show c.toNat = 45; omega
        simp [negB, hc]
      · have hc : c ≠ 45 := by rintro rfl; exact h rfl
        simp [restB, negB, hc]
      · have hc : c ≠ 45 := by rintro rfl; exact h rfl
        simp [negB, hc]
  · subst he; rfl
  · subst he; rfl
  · exact ⟨by simp, rfl, fun j h => by simp at h, fun _ => rfl, fun _ => ⟨rfl, by simp [valL]⟩, fun h => by simp at h, by simp⟩
  · have hpt := hptv x hx
    obtain ⟨hi, hf, hk, hk0, hsm, hgr, hx0⟩ := hx
    have hend : ¬ (x.i : Int) < (restB s).length → End8 (restB s) x := fun h => ⟨⟨hi, hf, hk, hk0, hsm, hgr, hx0⟩, by omega⟩
    have core : ∀ (hlt : x.i < (restB s).length) (c : UInt8), (restB s)[x.i] = c →
        (dstep (some (x.ds, x.k)) c = none → 0 = (decP s).1 ∧ 3 = (decP s).2) ∧
        (∀ y : X8, y.i = x.i + 1 → dstep (some (x.ds, x.k)) c = some (y.ds, y.k) → (∀ j, y.k = some j → j + 1 ≤ y.i ∧ y.ds ≠ []) → (y.k = none → y.ds.length = y.i) → (y.big = false → y.x = valL y.ds ∧ valL y.ds ≤ 1152921504606846976) → (y.big = true → 1152921504606846976 < valL y.ds) → (0 ≤ y.x ∧ y.x ≤ 1152921504606846976) → Inv8 (restB s) y) := fun hlt c hc => by
      constructor
      · intro hn
        have := fail (dfold_fail hlt (by rw [hf, hc]; exact hn))
        rw [this]; exact ⟨rfl, rfl⟩
      · intro y hy hd h1 h2 h3 h4 h5
        exact ⟨by omega, by rw [hy, dfold_succ hlt, hf, hc]; exact hd, h1, h2, h3, h4, h5⟩
    have nodig : ∀ c : UInt8, ¬ (48 ≤ c.toNat ∧ c.toNat ≤ 57) → ¬ (c = 46 ∧ x.k = none ∧ x.ds ≠ []) → dstep (some (x.ds, x.k)) c = none := fun c h1 h2 => by
      simp only [dstep]; rw [if_neg h2, if_neg (by rw [digitB_iff]; exact h1)]
    have dig : ∀ c : UInt8, (48 ≤ c.toNat ∧ c.toNat ≤ 57) → dstep (some (x.ds, x.k)) c = some (x.ds ++ [c], x.k.map (· + 1)) := fun c h1 => by
      have : c ≠ 46 := by rintro rfl; simp at h1
      simp only [dstep]; rw [if_neg (fun h => this h.1), if_pos (by rw [digitB_iff]; exact h1)]
    have kdig : ∀ c : UInt8, (∀ j, x.k.map (· + 1) = some j → j + 1 ≤ x.i + 1 ∧ x.ds ++ [c] ≠ []) ∧ (x.k.map (· + 1) = none → (x.ds ++ [c]).length = x.i + 1) := fun c => by
      constructor
      · intro j hj
        cases hkk : x.k with
        | none => rw [hkk] at hj; simp at hj
        | some a => rw [hkk] at hj; simp at hj; have := (hk a hkk).1; exact ⟨by omega, by simp⟩
      · intro hj
        have : x.k = none := by simpa using hj
        rw [List.length_append, hk0 this]; rfl
    have pt : ∀ (hlt : x.i < (restB s).length) (c : UInt8), (restB s)[x.i] = c → (c.toNat : Int) = 46 → ptv x.i x.k < 0 → 0 < (x.i : Int) → ∃ y : X8, (x.x = y.x ∧ (x.i : Int) = ptv y.i y.k ∧ x.big = y.big ∧ IntKind.i64.wrap ((x.i : Int) + 1) = y.i) ∧ Inv8 (restB s) y ∧ (restB s).length - y.i < (restB s).length - x.i := fun hlt c hc h46 hp h0 => by
      have hc46 : c = 46 := by rw [← UInt8.toNat_inj]; show c.toNat = 46; omega
      have hkn := hpt.1 hp
      have hdn : x.ds ≠ [] := by intro e; have := hk0 hkn; rw [e] at this; simp at this; omega
      refine ⟨⟨x.i + 1, x.ds, some 0, x.x, x.big⟩, ⟨rfl, by simp only [ptv]; omega, rfl, by rw [wrap64_in (by omega) (by omega)]; simp⟩, ?_, by simp only; omega⟩
      refine (core hlt c hc).2 _ rfl ?_ ?_ ?_ hsm hgr hx0
      · simp only [dstep]; rw [if_pos ⟨hc46, hkn, hdn⟩]
      · intro j hj; simp at hj; subst hj; exact ⟨by simp, hdn⟩
      · intro hj; simp at hj
    have bad : ∀ (hlt : x.i < (restB s).length) (c : UInt8), (restB s)[x.i] = c → ¬ ((c.toNat : Int) = 46 ∧ ptv x.i x.k < 0 ∧ 0 < (x.i : Int)) → ((c.toNat : Int) < 48 ∨ 57 < (c.toNat : Int)) → 0 = (decP s).1 ∧ 3 = (decP s).2 := fun hlt c hc h1 h2 => by
      refine (core hlt c hc).1 (nodig c (by omega) ?_)
      rintro ⟨rfl, hkn, hdn⟩
      refine h1 ⟨rfl, hpt.2 hkn, ?_⟩
      have := hk0 hkn
      have := List.length_pos_iff.2 hdn
      omega
    have dbig : ∀ (hlt : x.i < (restB s).length) (c : UInt8), (restB s)[x.i] = c → ¬ (c.toNat : Int) < 48 → ¬ 57 < (c.toNat : Int) → 1152921504606846976 < valL (x.ds ++ [c]) → ∃ y : X8, (x.x = y.x ∧ ptv x.i x.k = ptv y.i y.k ∧ true = y.big ∧ IntKind.i64.wrap ((x.i : Int) + 1) = y.i) ∧ Inv8 (restB s) y ∧ (restB s).length - y.i < (restB s).length - x.i := fun hlt c hc h1 h2 hv => by
      refine ⟨⟨x.i + 1, x.ds ++ [c], x.k.map (· + 1), x.x, true⟩, ⟨rfl, hstep _ _, rfl, by rw [wrap64_in (by omega) (by omega)]; simp⟩, ?_, by simp only; omega⟩
      exact (core hlt c hc).2 _ rfl (dig c (by omega)) (kdig c).1 (kdig c).2 (fun h => by simp at h) (fun _ => hv) hx0
    refine ⟨fun hb => ⟨fun hlt => ?_, fun hge => ⟨x, ⟨rfl, rfl, hb.symm⟩, hend hge⟩⟩, fun hb => ⟨fun hlt => ?_, fun hge => ⟨x, ⟨rfl, rfl, hb.symm⟩, hend hge⟩⟩⟩
    · have hlt' : x.i < (restB s).length := by omega
      have hg := hgr hb
      have pt' := pt hlt' _ rfl
      rw [hb] at pt'
      have hv : 1152921504606846976 < valL (x.ds ++ [(restB s)[x.i]]) := by rw [valL_snoc]; omega
      have bad' := bad hlt' _ rfl
      have db := fun h1 h2 => dbig hlt' _ rfl h1 h2 hv
      refine ⟨by omega, (restB s)[x.i], List.getElem?_eq_getElem hlt', ?_⟩
      generalize (restB s)[x.i] = c at *
      exact ⟨fun h46 => ⟨fun hp => ⟨fun h0 => pt' h46 hp h0, fun h0 => ⟨fun h => bad' (fun h' => h0 h'.2.2) (.inl h), fun h => ⟨fun h' => bad' (fun h'' => h0 h''.2.2) (.inr h'), fun h' => db h h'⟩⟩⟩, fun hp => ⟨fun h => bad' (fun h' => hp h'.2.1) (.inl h), fun h => ⟨fun h' => bad' (fun h'' => hp h''.2.1) (.inr h'), fun h' => db h h'⟩⟩⟩, fun h46 => ⟨fun h => bad' (fun h' => h46 h'.1) (.inl h), fun h => ⟨fun h' => bad' (fun h'' => h46 h''.1) (.inr h'), fun h' => db h h'⟩⟩⟩
    · have hlt' : x.i < (restB s).length := by omega
      obtain ⟨hxv, hvm⟩ := hsm hb
      have pt' := pt hlt' _ rfl
      rw [hb] at pt'
      have bad' := bad hlt' _ rfl
      have db := dbig hlt' (restB s)[x.i] rfl
      have core' := (core hlt' (restB s)[x.i] rfl).2
      refine ⟨by omega, (restB s)[x.i], List.getElem?_eq_getElem hlt', ?_⟩
      generalize (restB s)[x.i] = c at *
      have dg : ¬ (c.toNat : Int) < 48 → ¬ 57 < (c.toNat : Int) → ¬ (10 : Int) = 0 ∧ (IntKind.i64.wrap ((IntKind.i64.wrap (1152921504606846976 - IntKind.i64.wrap (IntKind.u8.wrap ((c.toNat : Int) - 48)))).tdiv 10) < x.x → ∃ y : X8, (x.x = y.x ∧ ptv x.i x.k = ptv y.i y.k ∧ true = y.big ∧ IntKind.i64.wrap ((x.i : Int) + 1) = y.i) ∧ Inv8 (restB s) y ∧ (restB s).length - y.i < (restB s).length - x.i) ∧
          (¬ IntKind.i64.wrap ((IntKind.i64.wrap (1152921504606846976 - IntKind.i64.wrap (IntKind.u8.wrap ((c.toNat : Int) - 48)))).tdiv 10) < x.x → ∃ y : X8, (IntKind.i64.wrap (IntKind.i64.wrap (10 * x.x) + IntKind.i64.wrap (IntKind.u8.wrap ((c.toNat : Int) - 48))) = y.x ∧ ptv x.i x.k = ptv y.i y.k ∧ false = y.big ∧ IntKind.i64.wrap ((x.i : Int) + 1) = y.i) ∧ Inv8 (restB s) y ∧ (restB s).length - y.i < (restB s).length - x.i) := fun h1 h2 => by
        have hw8 : IntKind.u8.wrap ((c.toNat : Int) - 48) = (c.toNat : Int) - 48 := wrap8_in (by omega) (by omega)
        rw [hw8, tdiv10 hx0.1 (by omega) (by omega)]
        have hvs := valL_snoc x.ds c
        refine ⟨by omega, fun h => db h1 h2 (by rw [hvs]; omega), fun h => ?_⟩
        rw [wrap64_in (n := (c.toNat : Int) - 48) (by omega) (by omega), wrap64_in (n := 10 * x.x) (by omega) (by omega), wrap64_in (n := 10 * x.x + ((c.toNat : Int) - 48)) (by omega) (by omega)]
        refine ⟨⟨x.i + 1, x.ds ++ [c], x.k.map (· + 1), 10 * x.x + ((c.toNat : Int) - 48), false⟩, ⟨rfl, hstep _ _, rfl, by rw [wrap64_in (by omega) (by omega)]; simp⟩, ?_, by simp only; omega⟩
        exact core' _ rfl (dig c (by omega)) (kdig c).1 (kdig c).2 (fun _ => by dsimp only; rw [hvs]; constructor <;> omega) (fun h => by simp at h) (by simp only; omega)
      exact ⟨fun h46 => ⟨fun hp => ⟨fun h0 => pt' h46 hp h0, fun h0 => ⟨fun h => bad' (fun h' => h0 h'.2.2) (.inl h), fun h => ⟨fun h' => bad' (fun h'' => h0 h''.2.2) (.inr h'), fun h' => dg h h'⟩⟩⟩, fun hp => ⟨fun h => bad' (fun h' => hp h'.2.1) (.inl h), fun h => ⟨fun h' => bad' (fun h'' => hp h''.2.1) (.inr h'), fun h' => dg h h'⟩⟩⟩, fun h46 => ⟨fun h => bad' (fun h' => h46 h'.1) (.inl h), fun h => ⟨fun h' => bad' (fun h'' => h46 h''.1) (.inr h'), fun h' => dg h h'⟩⟩⟩
  · obtain ⟨hx, hie⟩ := hx
    have hpt := hptv x hx
    obtain ⟨hi, hf, hk, hk0, hsm, hgr, hx0⟩ := hx
    rw [hie, List.take_length] at hf
    have hR : decP s = if x.ds = [] ∨ x.k = some 0 ∨ 6 < x.k.getD 0 then (0, 3) else decFin (negB s) (valL x.ds) (x.k.getD 0) := by rw [hdec, decR, hf]
    have hnil : restB s = [] ↔ x.i = 0 := by rw [hie]; exact List.length_eq_zero_iff.symm
    have hdw : ∀ j, x.k = some j → IntKind.i64.wrap (IntKind.i64.wrap (((restB s).length : Int) - ptv x.i x.k) - 1) = j := fun j hj => by
      have := (hk j hj).1
      simp only [hj, ptv]
      rw [wrap64_in (n := ((restB s).length : Int) - (x.i - j - 1)) (by omega) (by omega), wrap64_in (by omega) (by omega)]
      omega
    have ten : ∀ j : Nat, j ≤ 6 → 0 < 10 ^ (6 - j) ∧ 10 ^ (6 - j) ≤ 1000000 := fun j hj => by
      constructor
      · exact Nat.pow_pos (by omega)
      · exact Nat.pow_le_pow_right (n := 10) (by omega) (show 6 - j ≤ 6 by omega)
    have nofail : ∀ j, x.ds ≠ [] → (x.k = some j ∧ j ≠ 0 ∧ j ≤ 6 ∨ x.k = none ∧ j = 0) → x.k.getD 0 = j → j ≤ 6 → ¬ (x.ds = [] ∨ x.k = some 0 ∨ 6 < x.k.getD 0) := fun j hd hj hkj h6 => by
      rintro (h | h | h)
      · exact hd h
      · rcases hj with ⟨h', h2, _⟩ | ⟨h', _⟩
        · rw [h'] at h; simp only [Option.some.injEq] at h; exact h2 h
        · rw [h'] at h; cases h
      · rw [hkj] at h; omega
    have great : x.big = true → ∀ j, x.ds ≠ [] → (x.k = some j ∧ j ≠ 0 ∧ j ≤ 6 ∨ x.k = none ∧ j = 0) → 0 = (decP s).1 ∧ 2 = (decP s).2 := fun hb j hd hj => by
      have hg := hgr hb
      have hkj : x.k.getD 0 = j := by rcases hj with ⟨h, _⟩ | ⟨h, h2⟩ <;> simp [h]; omega
      have h6 : j ≤ 6 := by omega
      rw [hR, if_neg (nofail j hd hj hkj h6), hkj, decFin, if_pos]
      · exact ⟨rfl, rfl⟩
      · have := Nat.le_mul_of_pos_right (valL x.ds) (ten j h6).1
        omega
    have small : x.big = false → ∀ j, x.ds ≠ [] → (x.k = some j ∧ j ≠ 0 ∧ j ≤ 6 ∨ x.k = none ∧ j = 0) → ¬ ((10 ^ (6 - j) : Nat) : Int) = 0 ∧ (IntKind.i64.wrap (Int.tdiv 1152921504606846976 ((10 ^ (6 - j) : Nat) : Int)) < x.x → 0 = (decP s).1 ∧ 2 = (decP s).2) ∧
        (¬ IntKind.i64.wrap (Int.tdiv 1152921504606846976 ((10 ^ (6 - j) : Nat) : Int)) < x.x → (negB s = true → IntKind.i64.wrap (0 - IntKind.i64.wrap (x.x * ((10 ^ (6 - j) : Nat) : Int))) = (decP s).1 ∧ 0 = (decP s).2) ∧ (negB s = false → IntKind.i64.wrap (x.x * ((10 ^ (6 - j) : Nat) : Int)) = (decP s).1 ∧ 0 = (decP s).2)) := fun hb j hd hj => by
      obtain ⟨hxv, hvm⟩ := hsm hb
      have hkj : x.k.getD 0 = j := by rcases hj with ⟨h, _⟩ | ⟨h, h2⟩ <;> simp [h]; omega
      have h6 : j ≤ 6 := by omega
      obtain ⟨t1, t2⟩ := ten j h6
      rw [hR, if_neg (nofail j hd hj hkj h6), hkj, decFin, tdivp hx0.1 t1 t2, hxv]
      generalize hp : 10 ^ (6 - j) = p at *
      have hmul : ((valL x.ds : Nat) : Int) * (p : Int) = ((valL x.ds * p : Nat) : Int) := by simp
      rw [hmul]
      generalize valL x.ds * p = q
      refine ⟨by omega, fun h => ?_, fun h => ?_⟩
      · rw [if_pos (by omega)]; exact ⟨rfl, rfl⟩
      · rw [if_neg (by omega), wrap64_in (n := (q : Int)) (by omega) (by omega), wrap64_in (n := 0 - (q : Int)) (by omega) (by omega)]
        refine ⟨fun hn => ?_, fun hn => ?_⟩
        · rw [hn, if_pos rfl]; exact ⟨by dsimp only; omega, rfl⟩
        · rw [hn, if_neg (by simp)]; exact ⟨rfl, rfl⟩
    have f0 : x.ds = [] → 0 = (decP s).1 ∧ 3 = (decP s).2 := fun h => by rw [hR, if_pos (.inl h)]; exact ⟨rfl, rfl⟩
    have fk : ∀ j, x.k = some j → (j = 0 ∨ 6 < j) → 0 = (decP s).1 ∧ 3 = (decP s).2 := fun j h h2 => by
      rw [hR, if_pos]
      · exact ⟨rfl, rfl⟩
      · rcases h2 with rfl | h2
        · exact .inr (.inl h)
        · exact .inr (.inr (by rw [h]; exact h2))
    cases hkx : x.k with
    | none =>
      have hneg : ¬ 0 ≤ ptv x.i none := by simp [ptv]
      have hl0 := hk0 hkx
      have hd1 : restB s = [] → x.ds = [] := fun h => List.length_eq_zero_iff.1 (by rw [hl0]; exact hnil.1 h)
      have hd2 : ¬ restB s = [] → x.ds ≠ [] := fun h e => h (hnil.2 (by rw [← hl0, e]; rfl))
      have g2 := fun hb hr => great hb 0 (hd2 hr) (.inr ⟨hkx, rfl⟩)
      have s2 := fun hb hr => small hb 0 (hd2 hr) (.inr ⟨hkx, rfl⟩)
      rw [show ((10 ^ (6 - 0) : Nat) : Int) = 1000000 from rfl] at s2
      refine ⟨fun hb => ⟨fun hn => ⟨fun h => absurd h hneg, fun _ => ⟨fun h => f0 (hd1 h), fun h => ⟨⟨by omega, by omega⟩, 1000000, rfl, g2 hb h⟩⟩⟩, fun hn => ⟨fun h => absurd h hneg, fun _ => ⟨fun h => f0 (hd1 h), fun h => ⟨⟨by omega, by omega⟩, 1000000, rfl, g2 hb h⟩⟩⟩⟩,
        fun hb => ⟨fun hn => ⟨fun h => absurd h hneg, fun _ => ⟨fun h => f0 (hd1 h), fun h => ⟨⟨by omega, by omega⟩, 1000000, rfl, (s2 hb h).1, (s2 hb h).2.1, fun h' => ((s2 hb h).2.2 h').1 hn⟩⟩⟩, fun hn => ⟨fun h => absurd h hneg, fun _ => ⟨fun h => f0 (hd1 h), fun h => ⟨⟨by omega, by omega⟩, 1000000, rfl, (s2 hb h).1, (s2 hb h).2.1, fun h' => ((s2 hb h).2.2 h').2 hn⟩⟩⟩⟩⟩
    | some j =>
      have hw := hdw j hkx
      rw [hkx] at hw
      have hkj := hk j hkx
      have hpos : 0 ≤ ptv x.i (some j) := by simp only [ptv]; omega
      have hw6 : j ≤ 6 → IntKind.i64.wrap (6 - (j : Int)) = ((6 - j : Nat) : Int) := fun h => by rw [wrap64_in (by omega) (by omega)]; omega
      simp only [hw]
      have g2 := fun hb (h1 : ¬ (j : Int) = 0) (h2 : ¬ 6 < (j : Int)) => great hb j hkj.2 (.inl ⟨hkx, by omega, by omega⟩)
      have s2 := fun hb (h1 : ¬ (j : Int) = 0) (h2 : ¬ 6 < (j : Int)) => small hb j hkj.2 (.inl ⟨hkx, by omega, by omega⟩)
      have tk := fun (h2 : ¬ 6 < (j : Int)) => show takeAt PP 3 [tensA] 0 (IntKind.i64.wrap (6 - (j : Int))).toNat = some (.int .i64 ((10 ^ (6 - j) : Nat) : Int)) by rw [hw6 (by omega), Int.toNat_natCast]; exact tens_at (by omega)
      have bd := fun (h2 : ¬ 6 < (j : Int)) => show 0 ≤ IntKind.i64.wrap (6 - (j : Int)) ∧ IntKind.i64.wrap (6 - (j : Int)) < 7 by rw [hw6 (by omega)]; omega
      have e0 : restB s = [] → 0 = (decP s).1 ∧ 3 = (decP s).2 := fun h => by have := hnil.1 h; omega
      refine ⟨fun hb => ⟨fun hn => ⟨fun _ => ⟨fun h => fk j hkx (.inl (by omega)), fun h1 => ⟨fun h => fk j hkx (.inr (by omega)), fun h2 => ⟨e0, fun _ => ⟨bd h2, _, tk h2, g2 hb h1 h2⟩⟩⟩⟩, fun h => absurd hpos h⟩, fun hn => ⟨fun _ => ⟨fun h => fk j hkx (.inl (by omega)), fun h1 => ⟨fun h => fk j hkx (.inr (by omega)), fun h2 => ⟨e0, fun _ => ⟨bd h2, _, tk h2, g2 hb h1 h2⟩⟩⟩⟩, fun h => absurd hpos h⟩⟩,
        fun hb => ⟨fun hn => ⟨fun _ => ⟨fun h => fk j hkx (.inl (by omega)), fun h1 => ⟨fun h => fk j hkx (.inr (by omega)), fun h2 => ⟨e0, fun _ => ⟨bd h2, _, tk h2, (s2 hb h1 h2).1, (s2 hb h1 h2).2.1, fun h' => ((s2 hb h1 h2).2.2 h').1 hn⟩⟩⟩⟩, fun h => absurd hpos h⟩, fun hn => ⟨fun _ => ⟨fun h => fk j hkx (.inl (by omega)), fun h1 => ⟨fun h => fk j hkx (.inr (by omega)), fun h2 => ⟨e0, fun _ => ⟨bd h2, _, tk h2, (s2 hb h1 h2).1, (s2 hb h1 h2).2.1, fun h' => ((s2 hb h1 h2).2.2 h').2 hn⟩⟩⟩⟩, fun h => absurd hpos h⟩⟩⟩
theorem o8' (m : Int) : SpecOk PP (G8 m) 8 s8' := spec_of (X := XL) (m := []) mixed8 tbl_nil itbl_nil fun args r h => by
  unfold s8' at h
  split at h
  · rename_i l
    split at h
    · rename_i hl
      injection h with h; subst h
      have hp := p8 m l hl.1
      rw [decP_decB hl.2] at hp
      exact ⟨a8 _, hp⟩
    · cases h
  · cases h
theorem o43' (m : Int) : SpecOk PP (G8 m) 43 s43 := o43 m (o8' m) (o30 m)
end Go.Abs

namespace Go.Abs
open Go.Proofs L8

theorem raw_and8 (x y : Int) : IntKind.u8.wrap (↑(BitVec.ofInt IntKind.u8.bits x &&& BitVec.ofInt IntKind.u8.bits y).toNat) = bits .and .u8 x y := rfl
theorem raw_or32 (x y : Int) : IntKind.i32.wrap (↑(BitVec.ofInt IntKind.i32.bits x ||| BitVec.ofInt IntKind.i32.bits y).toNat) = bits .or .i32 x y := rfl
theorem raw_and32 (x y : Int) : IntKind.i32.wrap (↑(BitVec.ofInt IntKind.i32.bits x &&& BitVec.ofInt IntKind.i32.bits y).toNat) = bits .and .i32 x y := rfl
theorem raw_not32 (x y : Int) : IntKind.i32.wrap (↑(BitVec.ofInt IntKind.i32.bits x &&& ~~~BitVec.ofInt IntKind.i32.bits y).toNat) = bits .andNot .i32 x y := rfl
theorem pw6 : (2 : Int) ^ min (Int.toNat (6 : Int)) IntKind.i32.bits = 64 := rfl
theorem pw12 : (2 : Int) ^ min (Int.toNat (12 : Int)) IntKind.i32.bits = 4096 := rfl
theorem pw18 : (2 : Int) ^ min (Int.toNat (18 : Int)) IntKind.i32.bits = 262144 := rfl
theorem firstAt {c : Nat} (h : c < 256) : takeAt PP 5 [keptFirstA] 0 c = some (.int .u8 (Lib.firstT c)) := by
  have ha : aggA PP 5 = some false := by kernel_rfl
  have hs : ∃ s, sizeA PP 5 = some s := ⟨1, by kernel_rfl⟩
  obtain ⟨s, hs⟩ := hs
  simp only [takeAt, List.getElem?_cons_zero, ha, hs, takeA, keptFirstA, AV.cells, keptFirst, List.getElem?_map, List.getElem?_range h, Option.map_some]
theorem accAt {i : Nat} (h : i < 16) : takeAt PP 124 [keptAccA] 0 (i * 2) = some (.agg [.int .u8 (Lib.accLo i), .int .u8 (Lib.accHi i)]) := by
  have ha : aggA PP 124 = some true := by kernel_rfl
  have hs : sizeA PP 124 = some 2 := by kernel_rfl
  simp only [takeAt, List.getElem?_cons_zero, ha, hs, takeA, keptAccA, AV.cells]
  match i, h with
  | 0, _ | 1, _ | 2, _ | 3, _ | 4, _ | 5, _ | 6, _ | 7, _ | 8, _ | 9, _ | 10, _ | 11, _ | 12, _ | 13, _ | 14, _ | 15, _ => rfl
  | i + 16, h => exact absurd h (by omega)
theorem firstT_cases (b : Nat) : Lib.firstT b = 240 ∨ Lib.firstT b = 241 ∨ Lib.firstT b = 2 ∨ Lib.firstT b = 19 ∨ Lib.firstT b = 3 ∨ Lib.firstT b = 35 ∨ Lib.firstT b = 52 ∨ Lib.firstT b = 4 ∨ Lib.firstT b = 68 := by
  unfold Lib.firstT
  repeat' split
  all_goals simp
theorem u8at {l : List UInt8} {i : Nat} (h : i < l.length) : takeAt PP 5 (bytesL l) i 0 = some (.int .u8 (l.getD i 0).toNat) :=
  (take_u8_iff (by kernel_rfl) (by kernel_rfl)).2 ⟨h, rfl⟩
theorem getB {l : List UInt8} {i : Nat} : (((⟨l.toArray⟩ : ByteArray).get! i).toNat) = (l.getD i 0).toNat := by
  show ((l.toArray)[i]!).toNat = _
  simp only [List.getElem!_toArray, List.getElem!_eq_getElem?_getD, List.getD_eq_getElem?_getD]
  rfl
theorem decodeL_eq (l : List UInt8) : decodeL l 0 = Lib.decodeN l.length (l.getD 0 0).toNat (l.getD 1 0).toNat (l.getD 2 0).toNat (l.getD 3 0).toNat := by
  have h := Lib.decode_at ⟨l.toArray⟩ 0
  simp only [getB, Nat.zero_add] at h
  exact h
theorem p64 (m n : Int) : PureOk PP (G8 m) XA (tbl []) (itbl []) nAn [] 64 [.int .i64 n] (.bool (decide (8 < n)), []) := by
  constructor
  rw [w64]
  simp only [retIs_iff, Prod.mk.injEq, AV.bool.injEq, and_true, decide_eq_true_eq, decide_eq_false_iff_not]
  exact ⟨fun h => (decide_eq_true (by omega)).symm, fun h => (decide_eq_false (by omega)).symm⟩
set_option maxRecDepth 100000 in
theorem bad_rune {n : Int} (h0 : 0 ≤ n) (h1 : n < 256) : bits .or .i32 (bits .andNot .i32 n (-1)) (bits .and .i32 65533 (-1)) = 65533 := by
  have : ∀ x : Fin 256, bits .or .i32 (bits .andNot .i32 ((x.val : Nat) : Int) (-1)) (bits .and .i32 65533 (-1)) = 65533 := by decide
  have h := this ⟨n.toNat, by omega⟩
  simp only [Int.toNat_of_nonneg h0] at h
  exact h
theorem wrap32_in {n : Int} (h0 : -2147483648 ≤ n) (h1 : n < 2147483648) : IntKind.i32.wrap n = n := by rw [IntKind.wrap_i32]; omega
set_option maxRecDepth 100000 in
set_option maxHeartbeats 4000000 in
theorem p85 (m : Int) (bs : List UInt8) (h : hiB bs) (hl : bs.length ≤ 1000000) : PureOk PP (G8 m) XA (tbl []) (itbl []) nAn [] 85 [.sl 1 (bytesL bs) .no] (decA bs, []) := by
  constructor
  rw [w85]
  simp only [retIs_iff, bytesL_length, decide_eq_true_eq, decide_eq_false_iff_not, ge_iff_le, Prod.mk.injEq, AV.tup.injEq, List.cons.injEq, AV.int.injEq, and_true, true_and, raw_and8, raw_or32, raw_and32, raw_not32, pw6, pw12, pw18, Nat.zero_add, Nat.mul_one]
  rw [decodeL_eq]
  have hb : ∀ i, (bs.getD i 0).toNat < 256 := fun i => (bs.getD i 0).toNat_lt
  have hlen : 1 ≤ bs.length := by obtain ⟨c, t, rfl, _⟩ := h; simp
  have h134 : 128 ≤ (bs.getD 0 0).toNat := by obtain ⟨c, t, rfl, h⟩ := h; simpa using h
  have hx0 : Lib.firstT (bs.getD 0 0).toNat ≠ 240 := by
    unfold Lib.firstT
    repeat' split
    all_goals omega
  have slow := Lib.slow_eq bs.length (bs.getD 0 0).toNat (bs.getD 1 0).toNat (bs.getD 2 0).toNat (bs.getD 3 0).toNat hlen (hb 1) (hb 2) (hb 3)
  have bad := Lib.bad_eq bs.length (bs.getD 0 0).toNat (bs.getD 1 0).toNat (bs.getD 2 0).toNat (bs.getD 3 0).toNat (hb 0)
  have hcs := firstT_cases (bs.getD 0 0).toNat
  have hb0 := hb 0
  have hb1 := hb 1
  have hb2 := hb 2
  have hb3 := hb 3
  have t0 := u8at (l := bs) (i := 0) (by omega)
  have t1 : 1 < bs.length → _ := fun h => u8at (l := bs) (i := 1) h
  have t2 : 2 < bs.length → _ := fun h => u8at (l := bs) (i := 2) h
  have t3 : 3 < bs.length → _ := fun h => u8at (l := bs) (i := 3) h
  have tf := firstAt hb0
  have hbb0 : ∀ k, IntKind.i32.wrap (bits .and .u8 ((bs.getD 0 0).toNat : Int) k) = bits .and .u8 ((bs.getD 0 0).toNat : Int) k := fun k => wrap32_in (by unfold bits; rw [IntKind.wrap_u8]; omega) (by unfold bits; rw [IntKind.wrap_u8]; omega)
  generalize (bs.getD 0 0).toNat = b0 at *
  generalize (bs.getD 1 0).toNat = b1 at *
  generalize (bs.getD 2 0).toNat = b2 at *
  generalize (bs.getD 3 0).toNat = b3 at *
  have w8 : ∀ {n : Int}, 0 ≤ n → n < 256 → IntKind.i32.wrap n = n := fun h0 h1 => wrap32_in (by omega) (by omega)
  refine ⟨fun h => by omega, fun _ => ⟨by omega, (b0 : Int), t0, by omega, ?_⟩⟩
  rw [Int.toNat_natCast]
  refine ⟨_, tf, fun hx => ?_, fun hx => ?_⟩
  · have he : Lib.firstT b0 = 241 := by omega
    refine ⟨by omega, by omega, by omega, _, t0, ?_⟩
    rw [he, bad he]
    have e1 : (IntKind.i32.wrap (IntKind.i32.wrap ((241 : Nat) : Int) * 2147483648)).fdiv 2147483648 = -1 := by decide
    rw [e1, w8 (by omega) (by omega), bad_rune (by omega) (by omega)]
    exact ⟨rfl, rfl⟩
  · have hlow : Lib.firstT b0 < 240 := by omega
    have hs := slow hlow
    have hd : ((Lib.firstT b0 : Int)).fdiv 16 = ((Lib.firstT b0 / 16 : Nat) : Int) := by
      rw [Int.fdiv_eq_ediv_of_nonneg _ (by omega)]; rfl
    have hsz : IntKind.i64.wrap (bits .and .u8 (Lib.firstT b0 : Int) 7) = ((Lib.firstT b0 % 8 : Nat) : Int) := by
      have := u8_and7 (x := (Lib.firstT b0 : Int)) (by omega) (by omega)
      rw [this, wrap64_in (by omega) (by omega)]; rfl
    have ta := accAt (i := Lib.firstT b0 / 16) (by omega)
    simp only [hd, hsz, Int.toNat_natCast, decide_eq_true_eq, decide_eq_false_iff_not]
    have hszc : Lib.firstT b0 % 8 = 2 ∨ Lib.firstT b0 % 8 = 3 ∨ Lib.firstT b0 % 8 = 4 := by omega
    generalize Lib.firstT b0 % 8 = sz at *
    generalize Lib.accLo (Lib.firstT b0 / 16) = lo at *
    generalize Lib.accHi (Lib.firstT b0 / 16) = hi at *
    have a31 := u8_and31 (x := (b0 : Int)) (by omega) (by omega)
    have a15 := u8_and15 (x := (b0 : Int)) (by omega) (by omega)
    have a7 := u8_and7 (x := (b0 : Int)) (by omega) (by omega)
    have c1 := u8_and63 (x := (b1 : Int)) (by omega) (by omega)
    have c2 := u8_and63 (x := (b2 : Int)) (by omega) (by omega)
    have c3 := u8_and63 (x := (b3 : Int)) (by omega) (by omega)
    refine ⟨by omega, by omega, _, _, ta, fun h1 => ?_, fun h1 => ⟨by omega, _, t1 (by omega), fun h2 => ?_, fun h2 => ⟨fun h3 => ?_, fun h3 => ⟨fun h4 => ⟨by omega, ?_⟩, fun h4 => ⟨by omega, _, t2 (by omega), fun h5 => ?_, fun h5 => ⟨fun h6 => ?_, fun h6 => ⟨fun h7 => ⟨by omega, by omega, ?_⟩, fun h7 => ⟨by omega, _, t3 (by omega), fun h8 => ?_, fun h8 => ⟨fun h9 => ?_, fun h9 => ⟨by omega, by omega, by omega, ?_⟩⟩⟩⟩⟩⟩⟩⟩⟩⟩
    · rw [← hs, Lib.slowN, if_pos (by omega)]; exact ⟨rfl, rfl⟩
    · rw [← hs, Lib.slowN, if_neg (by omega), if_pos (by omega)]; exact ⟨rfl, rfl⟩
    · rw [← hs, Lib.slowN, if_neg (by omega), if_pos (by omega)]; exact ⟨rfl, rfl⟩
    · rw [← hs, Lib.slowN, if_neg (by omega), if_neg (by omega), if_pos (by omega)]
      refine ⟨?_, rfl⟩
      rw [a31, c1, wrap32_in (n := (b0 : Int) % 32) (by omega) (by omega), wrap32_in (n := (b1 : Int) % 64) (by omega) (by omega), wrap32_in (n := (b0 : Int) % 32 * 64) (by omega) (by omega), i32_or6 (x := (b0 : Int) % 32 * 64) (y := (b1 : Int) % 64) (by omega) (by omega) (by omega) (by omega) (by omega)]
      simp
    · rw [← hs, Lib.slowN, if_neg (by omega), if_neg (by omega), if_neg (by omega), if_pos (by omega)]; exact ⟨rfl, rfl⟩
    · rw [← hs, Lib.slowN, if_neg (by omega), if_neg (by omega), if_neg (by omega), if_pos (by omega)]; exact ⟨rfl, rfl⟩
    · rw [← hs, Lib.slowN, if_neg (by omega), if_neg (by omega), if_neg (by omega), if_neg (by omega), if_pos (by omega)]
      refine ⟨?_, rfl⟩
      rw [a15, c1, c2, wrap32_in (n := (b0 : Int) % 16) (by omega) (by omega), wrap32_in (n := (b1 : Int) % 64) (by omega) (by omega), wrap32_in (n := (b2 : Int) % 64) (by omega) (by omega), wrap32_in (n := (b0 : Int) % 16 * 4096) (by omega) (by omega), wrap32_in (n := (b1 : Int) % 64 * 64) (by omega) (by omega),
        i32_or12 (x := (b0 : Int) % 16 * 4096) (y := (b1 : Int) % 64 * 64) (by omega) (by omega) (by omega) (by omega) (by omega), i32_or6 (x := (b0 : Int) % 16 * 4096 + (b1 : Int) % 64 * 64) (y := (b2 : Int) % 64) (by omega) (by omega) (by omega) (by omega) (by omega)]
      simp
    · rw [← hs, Lib.slowN, if_neg (by omega), if_neg (by omega), if_neg (by omega), if_neg (by omega), if_neg (by omega), if_pos (by omega)]; exact ⟨rfl, rfl⟩
    · rw [← hs, Lib.slowN, if_neg (by omega), if_neg (by omega), if_neg (by omega), if_neg (by omega), if_neg (by omega), if_pos (by omega)]; exact ⟨rfl, rfl⟩
    · rw [← hs, Lib.slowN, if_neg (by omega), if_neg (by omega), if_neg (by omega), if_neg (by omega), if_neg (by omega), if_neg (by omega)]
      refine ⟨?_, rfl⟩
      rw [a7, c1, c2, c3, wrap32_in (n := (b0 : Int) % 8) (by omega) (by omega), wrap32_in (n := (b1 : Int) % 64) (by omega) (by omega), wrap32_in (n := (b2 : Int) % 64) (by omega) (by omega), wrap32_in (n := (b3 : Int) % 64) (by omega) (by omega), wrap32_in (n := (b0 : Int) % 8 * 262144) (by omega) (by omega), wrap32_in (n := (b1 : Int) % 64 * 4096) (by omega) (by omega), wrap32_in (n := (b2 : Int) % 64 * 64) (by omega) (by omega),
        i32_or18 (x := (b0 : Int) % 8 * 262144) (y := (b1 : Int) % 64 * 4096) (by omega) (by omega) (by omega) (by omega) (by omega), i32_or12 (x := (b0 : Int) % 8 * 262144 + (b1 : Int) % 64 * 4096) (y := (b2 : Int) % 64 * 64) (by omega) (by omega) (by omega) (by omega) (by omega), i32_or6 (x := (b0 : Int) % 8 * 262144 + (b1 : Int) % 64 * 4096 + (b2 : Int) % 64 * 64) (y := (b3 : Int) % 64) (by omega) (by omega) (by omega) (by omega) (by omega)]
      simp
end Go.Abs

namespace Go.Abs
open Go.Proofs L8

structure DecF (n b1 b2 b3 : Nat) (d : Nat × Nat) : Prop where
  pos : 1 ≤ d.2
  le4 : d.2 ≤ 4
  le : d.2 ≤ n
  hi : 128 ≤ d.1
  b1 : 1 < d.2 → 128 ≤ b1
  b2 : 2 < d.2 → 128 ≤ b2
  b3 : 3 < d.2 → 128 ≤ b3
  len : d.1 ≠ 65533 → (d.2 = 2 ∧ d.1 < 2048) ∨ (d.2 = 3 ∧ 2048 ≤ d.1 ∧ d.1 < 65536) ∨ (d.2 = 4 ∧ 65536 ≤ d.1)
  ok : (0 ≤ d.1 ∧ d.1 < 55296) ∨ (57344 ≤ d.1 ∧ d.1 ≤ 1114111)
set_option maxHeartbeats 2000000 in
theorem decF {n b0 b1 b2 b3 : Nat} (hn : 1 ≤ n) (h0 : 128 ≤ b0) (h0' : b0 < 256) (h1 : b1 < 256) (h2 : b2 < 256) (h3 : b3 < 256) : DecF n b1 b2 b3 (Lib.decodeN n b0 b1 b2 b3) := by
  unfold Lib.decodeN
  rw [if_neg (by omega)]
  repeat' split
  all_goals constructor
  all_goals try omega
  all_goals try (simp only; omega)

theorem encF (r : Nat) (h : 128 ≤ r) : ∃ e0 u, (Utf8.encode (r : Int)).data.toList = e0 :: u ∧ 192 ≤ e0.toNat ∧ (((r < 55296) ∨ (57344 ≤ r ∧ r ≤ 1114111)) → (r < 2048 → u.length = 1) ∧ (2048 ≤ r → r < 65536 → u.length = 2) ∧ (65536 ≤ r → u.length = 3)) := by
  have key : ∀ c, 128 ≤ c → ∃ e0 u, ((if c < 0x80 then (⟨#[UInt8.ofNat c]⟩ : ByteArray)
  else if c < 0x800 then ⟨#[UInt8.ofNat (0xC0 + c / 64), UInt8.ofNat (0x80 + c % 64)]⟩
  else if c < 0x10000 then ⟨#[UInt8.ofNat (0xE0 + c / 4096), UInt8.ofNat (0x80 + c / 64 % 64), UInt8.ofNat (0x80 + c % 64)]⟩
  else ⟨#[UInt8.ofNat (0xF0 + c / 262144), UInt8.ofNat (0x80 + c / 4096 % 64), UInt8.ofNat (0x80 + c / 64 % 64), UInt8.ofNat (0x80 + c % 64)]⟩).data.toList = e0 :: u) ∧ (c ≤ 1114111 → 192 ≤ e0.toNat) ∧ (c < 2048 → u.length = 1) ∧ (2048 ≤ c → c < 65536 → u.length = 2) ∧ (65536 ≤ c → u.length = 3) := by
    intro c hc
    rw [if_neg (by omega)]
    have hof : ∀ n, n < 256 → (UInt8.ofNat n).toNat = n := fun n hn => by simp; omega
    by_cases h1 : c < 0x800
    · rw [if_pos h1]
      exact ⟨_, _, rfl, fun _ => by rw [hof _ (by omega)]; omega, fun _ => rfl, fun h => by omega, fun h => by omega⟩
    · rw [if_neg h1]
      by_cases h2 : c < 0x10000
      · rw [if_pos h2]
        exact ⟨_, _, rfl, fun _ => by rw [hof _ (by omega)]; omega, fun h => by omega, fun _ _ => rfl, fun h => by omega⟩
      · rw [if_neg h2]
        exact ⟨_, _, rfl, fun _ => by rw [hof _ (by omega)]; omega, fun h => by omega, fun _ _ => by omega, fun _ => rfl⟩
  unfold Utf8.encode
  by_cases hv : Utf8.valid (r : Int) = true
  · simp only [hv, if_true, Int.toNat_natCast]
    obtain ⟨e0, u, h1, h2, h3⟩ := key r h
    refine ⟨e0, u, h1, h2 ?_, fun _ => h3⟩
    simp only [Utf8.valid, Bool.or_eq_true, Bool.and_eq_true, decide_eq_true_eq] at hv
    omega
  · simp only [hv, if_false, Bool.false_eq_true, Utf8.runeError]
    obtain ⟨e0, u, h1, h2, h3⟩ := key 0xFFFD (by omega)
    refine ⟨e0, u, h1, h2 (by omega), fun h' => ?_⟩
    simp only [Utf8.valid, Bool.or_eq_true, Bool.and_eq_true, decide_eq_true_eq] at hv
    omega
/-- nothing of a rune beyond ASCII is a quote or the end of a line -/
theorem idx_none {e0 : UInt8} {u : List UInt8} (h : 192 ≤ e0.toNat) : Lib.index [34, 10] (e0 :: u) = -1 := by
  have h1 : ¬ e0 = 34 := by rintro rfl; simp at h
  have h2 : ¬ e0 = 10 := by rintro rfl; simp at h
  have e1 : (e0 == 34) = false := by simpa using h1
  have e2 : (e0 == 10) = false := by simpa using h2
  simp [Lib.index, List.isPrefixOf, e1, e2]
theorem tw_add {p : UInt8 → Bool} : ∀ {k : Nat} {l : List UInt8} {x : Nat}, x ≤ (l.takeWhile p).length → (∀ i, i < k → x + i < l.length ∧ p (l.getD (x + i) 0) = true) → x + k ≤ (l.takeWhile p).length
  | 0, l, x, hx, _ => hx
  | k + 1, l, x, hx, h => by
    have h0 := h 0 (by omega)
    have h1 := tw_next (p := p) hx h0.1 h0.2
    have := tw_add (p := p) (k := k) (l := l) (x := x + 1) h1 fun i hi => by
      have := h (i + 1) (by omega)
      rw [show x + 1 + i = x + (i + 1) by omega]; exact this
    omega
end Go.Abs

namespace Go.Abs
open Go.Proofs L8
theorem w44 (m : Int) (bs : List UInt8) : (pureW PP (G8 m) XA (tbl [(62, sIndexByteString), (64, s64), (65, s65), (67, s67), (68, s68 m)]) (itbl [(66, s66)]) (a44 bs) [] 44 [.sl 1 (bytesL bs) .no, .str [34, 10]] (.int .i64 (if stL bs < bs.length then (stL bs : Int) else -1), [])) =
((false = true → RetIs (AV.int IntKind.i64 (-1 : Int)) [] (AV.int IntKind.i64 (if stL bs < bs.length then (↑(stL bs) : Int) else (-1 : Int)), [])) ∧
  (false = false →
    (((↑(bytesL bs).length : Int) == (1 : Int)) = true →
        ((0 : Int) ≤ (0 : Int) ∧ (0 : Int) < (↑(bytesL bs).length : Int)) ∧
 ∃ (n : Int),
 takeAt PP (nat_lit 5) (bytesL bs) (nat_lit 0) (nat_lit 0) = some (AV.int IntKind.u8 n) ∧
 (decide (IntKind.i32.wrap n ≥ (128 : Int)) = true →
 (nat_lit 0 < nat_lit 2 →
 (true = true →
 (false = true →
 RetIs (AV.int IntKind.i64 (0 : Int)) [] (AV.int IntKind.i64 (if stL bs < bs.length then (↑(stL bs) : Int) else (-1 : Int)), [])) ∧
 (false = false →
 (nat_lit 1 < nat_lit 2 →
 (true = true →
 (false = true →
 RetIs (AV.int IntKind.i64 (0 : Int)) []
 (AV.int IntKind.i64 (if stL bs < bs.length then (↑(stL bs) : Int) else (-1 : Int)), [])) ∧
 (false = false →
 (nat_lit 2 < nat_lit 2 →
 (true = true →
 (false = true →
 RetIs (AV.int IntKind.i64 (0 : Int)) []
 (AV.int IntKind.i64 (if stL bs < bs.length then (↑(stL bs) : Int) else (-1 : Int)), [])) ∧
 (false = false → False)) ∧
 (true = false →
 RetIs (AV.int IntKind.i64 (-1 : Int)) []
 (AV.int IntKind.i64 (if stL bs < bs.length then (↑(stL bs) : Int) else (-1 : Int)), []))) ∧
 (nat_lit 2 ≤ nat_lit 2 →
 (false = true → False) ∧
 (false = false →
 RetIs (AV.int IntKind.i64 (-1 : Int)) []
 (AV.int IntKind.i64 (if stL bs < bs.length then (↑(stL bs) : Int) else (-1 : Int)), []))))) ∧
 (true = false →
 RetIs (AV.int IntKind.i64 (-1 : Int)) []
 (AV.int IntKind.i64 (if stL bs < bs.length then (↑(stL bs) : Int) else (-1 : Int)), []))) ∧
 (nat_lit 2 ≤ nat_lit 1 →
 (false = true → False) ∧
 (false = false →
 RetIs (AV.int IntKind.i64 (-1 : Int)) []
 (AV.int IntKind.i64 (if stL bs < bs.length then (↑(stL bs) : Int) else (-1 : Int)), []))))) ∧
 (true = false →
 RetIs (AV.int IntKind.i64 (-1 : Int)) [] (AV.int IntKind.i64 (if stL bs < bs.length then (↑(stL bs) : Int) else (-1 : Int)), []))) ∧
 (nat_lit 2 ≤ nat_lit 0 →
 (false = true → False) ∧
 (false = false →
 RetIs (AV.int IntKind.i64 (-1 : Int)) [] (AV.int IntKind.i64 (if stL bs < bs.length then (↑(stL bs) : Int) else (-1 : Int)), [])))) ∧
 (decide (IntKind.i32.wrap n ≥ (128 : Int)) = false →
 ((0 : Int) ≤ (0 : Int) ∧ (0 : Int) < (↑(bytesL bs).length : Int)) ∧
 ∃ (n : Int),
 takeAt PP (nat_lit 5) (bytesL bs) (nat_lit 0) (nat_lit 0) = some (AV.int IntKind.u8 n) ∧
 ∃ (n_1 : Int),
 CallIs (some (AV.int IntKind.i64 (Lib.indexByte [(34 : UInt8), (10 : UInt8)] n.toNat.toUInt8), [])) (AV.int IntKind.i64 n_1) [] ∧
 (decide (n_1 ≥ (0 : Int)) = true →
 RetIs (AV.int IntKind.i64 (0 : Int)) []
 (AV.int IntKind.i64 (if stL bs < bs.length then (↑(stL bs) : Int) else (-1 : Int)), [])) ∧
 (decide (n_1 ≥ (0 : Int)) = false →
 RetIs (AV.int IntKind.i64 (-1 : Int)) []
 (AV.int IntKind.i64 (if stL bs < bs.length then (↑(stL bs) : Int) else (-1 : Int)), [])))) ∧
      (((↑(bytesL bs).length : Int) == (1 : Int)) = false →
        (false = true →
 (0 : Int) ≤ (0 : Int) ∧
 ∃ (c : UInt8),
 some (34 : UInt8) = some c ∧
 (decide (IntKind.i32.wrap (↑c.toNat : Int) ≥ (128 : Int)) = true → False) ∧
 (decide (IntKind.i32.wrap (↑c.toNat : Int) ≥ (128 : Int)) = false → False)) ∧
 (false = false →
 ∃ (b : Bool),
 CallIs (some (AV.bool (decide ((8 : Int) < (↑(bytesL bs).length : Int))), [])) (AV.bool b) [] ∧
 (b = true →
 CallIs (some (AV.tup [keptSetA, AV.bool true], [])) (AV.tup [keptSetA, AV.bool true]) [] ∧
 (true = true →
 (∃ (y : Nat),
 ValsAre
 [AV.ptr (nat_lit 0) (nat_lit 0), AV.sl (nat_lit 1) (bytesL bs) Own.no, AV.int IntKind.i64 (↑(bytesL bs).length : Int),
 AV.int IntKind.i64 (0 : Int)]
 [AV.ptr (nat_lit 0) (nat_lit 0), AV.sl (nat_lit 1) (bytesL bs) Own.no, AV.int IntKind.i64 (↑bs.length : Int),
 AV.int IntKind.i64 (↑y : Int)] ∧
 StIs { boxes := [some keptSet], live := [] } { boxes := [some keptSet], live := [] } ∧ y ≤ stL bs ∧ True) ∧
 ∀ (x : Nat),
 x ≤ stL bs →
 (decide ((↑x : Int) < (↑bs.length : Int)) = true →
 ((0 : Int) ≤ (↑x : Int) ∧ (↑x : Int) < (↑(bytesL bs).length : Int)) ∧
 ∃ (n : Int),
 takeAt PP (nat_lit 5) (bytesL bs) (↑x : Int).toNat (nat_lit 0) = some (AV.int IntKind.u8 n) ∧
 (keptSet = keptSet ∧ (0 : Int) ≤ n ∧ n < (256 : Int)) ∧
 (decide (n = (10 : Int) ∨ n = (34 : Int)) = true →
 RetIs (AV.int IntKind.i64 (↑x : Int)) []
 (AV.int IntKind.i64 (if stL bs < bs.length then (↑(stL bs) : Int) else (-1 : Int)), [])) ∧
 (decide (n = (10 : Int) ∨ n = (34 : Int)) = false →
 ∃ (y : Nat),
 ValsAre
 [AV.ptr (nat_lit 0) (nat_lit 0), AV.sl (nat_lit 1) (bytesL bs) Own.no,
 AV.int IntKind.i64 (↑bs.length : Int), AV.int IntKind.i64 (IntKind.i64.wrap ((↑x : Int) + (1 : Int)))]
 [AV.ptr (nat_lit 0) (nat_lit 0), AV.sl (nat_lit 1) (bytesL bs) Own.no,
 AV.int IntKind.i64 (↑bs.length : Int), AV.int IntKind.i64 (↑y : Int)] ∧
 StIs { boxes := [some keptSet], live := [] } { boxes := [some keptSet], live := [] } ∧
 y ≤ stL bs ∧ bs.length - y < bs.length - x)) ∧
 (decide ((↑x : Int) < (↑bs.length : Int)) = false →
 RetIs (AV.int IntKind.i64 (-1 : Int)) []
 (AV.int IntKind.i64 (if stL bs < bs.length then (↑(stL bs) : Int) else (-1 : Int)), []))) ∧
 (true = false →
 False ∧
 ∀ (x : Nat),
 x ≤ stL bs →
 (decide ((↑x : Int) < (↑(bytesL bs).length : Int)) = true →
 ((0 : Int) ≤ (↑x : Int) ∧ (↑x : Int) < (↑(bytesL bs).length : Int)) ∧
 ∃ (n : Int),
 takeAt PP (nat_lit 5) (bytesL bs) (↑x : Int).toNat (nat_lit 0) = some (AV.int IntKind.u8 n) ∧
 (decide (IntKind.i32.wrap n < (128 : Int)) = true →
 ((0 : Int) ≤ (↑x : Int) ∧ (↑x : Int) < (↑(bytesL bs).length : Int)) ∧
 ∃ (n : Int),
 takeAt PP (nat_lit 5) (bytesL bs) (↑x : Int).toNat (nat_lit 0) = some (AV.int IntKind.u8 n) ∧
 ∃ (n_1 : Int),
 CallIs (some (AV.int IntKind.i64 (Lib.indexByte [(34 : UInt8), (10 : UInt8)] n.toNat.toUInt8), []))
 (AV.int IntKind.i64 n_1) [] ∧
 (decide (n_1 ≥ (0 : Int)) = true →
 RetIs (AV.int IntKind.i64 (↑x : Int)) []
 (AV.int IntKind.i64 (if stL bs < bs.length then (↑(stL bs) : Int) else (-1 : Int)), [])) ∧
 (decide (n_1 ≥ (0 : Int)) = false → False)) ∧
 (decide (IntKind.i32.wrap n < (128 : Int)) = false →
 (0 : Int) ≤ (↑x : Int) ∧
 ((↑x : Int).toNat ≤ (bytesL bs).length ∧ (bytesL bs).length ≤ (bytesL bs).length) ∧
 (nat_lit 1 = nat_lit 1 ∨ bytesL bs = []) ∧
 ∃ (n : Int),
 ∃ (n_1 : Int),
 CallIs
 (tbl
 [(nat_lit 62, sIndexByteString), (nat_lit 64, s64), (nat_lit 65, s65), (nat_lit 67, s67),
 (nat_lit 68, s68 m)]
 (nat_lit 67)
 [AV.sl (nat_lit 1) (List.drop (↑x : Int).toNat (List.take (bytesL bs).length (bytesL bs)))
 Own.no])
 (AV.tup [AV.int IntKind.i32 n, AV.int IntKind.i64 n_1]) [] ∧
 ((n != (65533 : Int)) = true →
 (((2 : Int) == n_1) = true →
 (([(34 : UInt8), (10 : UInt8)] == (Utf8.encode n).data.toList) = true →
 RetIs (AV.int IntKind.i64 (↑x : Int)) []
 (AV.int IntKind.i64 (if stL bs < bs.length then (↑(stL bs) : Int) else (-1 : Int)),
 [])) ∧
 (([(34 : UInt8), (10 : UInt8)] == (Utf8.encode n).data.toList) = false → False)) ∧
 (((2 : Int) == n_1) = false →
 ∃ (n_2 : Int),
 some (AV.int IntKind.i64 m) = some (AV.int IntKind.i64 n_2) ∧
 (decide (n_2 ≥ n_1) = true →
 ∃ (n_3 : Int),
 CallIs
 (tbl
 [(nat_lit 62, sIndexByteString), (nat_lit 64, s64), (nat_lit 65, s65),
 (nat_lit 67, s67), (nat_lit 68, s68 m)]
 (nat_lit 68)
 [AV.str [(34 : UInt8), (10 : UInt8)], AV.str (Utf8.encode n).data.toList])
 (AV.int IntKind.i64 n_3) [] ∧
 (decide (n_3 ≥ (0 : Int)) = true →
 RetIs (AV.int IntKind.i64 (↑x : Int)) []
 (AV.int IntKind.i64
 (if stL bs < bs.length then (↑(stL bs) : Int) else (-1 : Int)),
 [])) ∧
 (decide (n_3 ≥ (0 : Int)) = false → False)) ∧
 (decide (n_2 ≥ n_1) = false →
 (nat_lit 0 < nat_lit 2 →
 (true = true →
 ((n == (34 : Int)) = true →
 RetIs (AV.int IntKind.i64 (↑x : Int)) []
 (AV.int IntKind.i64
 (if stL bs < bs.length then (↑(stL bs) : Int) else (-1 : Int)),
 [])) ∧
 ((n == (34 : Int)) = false →
 (nat_lit 1 < nat_lit 2 →
 (true = true →
 ((n == (10 : Int)) = true →
 RetIs (AV.int IntKind.i64 (↑x : Int)) []
 (AV.int IntKind.i64
 (if stL bs < bs.length then (↑(stL bs) : Int)
 else (-1 : Int)),
 [])) ∧
 ((n == (10 : Int)) = false →
 (nat_lit 2 < nat_lit 2 →
 (true = true →
 ((n == (0 : Int)) = true →
 RetIs (AV.int IntKind.i64 (↑x : Int)) []
 (AV.int IntKind.i64
 (if stL bs < bs.length then
 (↑(stL bs) : Int)
 else (-1 : Int)),
 [])) ∧
 ((n == (0 : Int)) = false → False)) ∧
 (true = false → False)) ∧
 (nat_lit 2 ≤ nat_lit 2 →
 (false = true → False) ∧ (false = false → False)))) ∧
 (true = false → False)) ∧
 (nat_lit 2 ≤ nat_lit 1 →
 (false = true → False) ∧ (false = false → False)))) ∧
 (true = false → False)) ∧
 (nat_lit 2 ≤ nat_lit 0 → (false = true → False) ∧ (false = false → False))))) ∧
 ((n != (65533 : Int)) = false →
 (nat_lit 0 < nat_lit 2 →
 (true = true →
 ((n == (34 : Int)) = true →
 RetIs (AV.int IntKind.i64 (↑x : Int)) []
 (AV.int IntKind.i64 (if stL bs < bs.length then (↑(stL bs) : Int) else (-1 : Int)),
 [])) ∧
 ((n == (34 : Int)) = false →
 (nat_lit 1 < nat_lit 2 →
 (true = true →
 ((n == (10 : Int)) = true →
 RetIs (AV.int IntKind.i64 (↑x : Int)) []
 (AV.int IntKind.i64
 (if stL bs < bs.length then (↑(stL bs) : Int) else (-1 : Int)),
 [])) ∧
 ((n == (10 : Int)) = false →
 (nat_lit 2 < nat_lit 2 →
 (true = true →
 ((n == (0 : Int)) = true →
 RetIs (AV.int IntKind.i64 (↑x : Int)) []
 (AV.int IntKind.i64
 (if stL bs < bs.length then (↑(stL bs) : Int)
 else (-1 : Int)),
 [])) ∧
 ((n == (0 : Int)) = false → False)) ∧
 (true = false → False)) ∧
 (nat_lit 2 ≤ nat_lit 2 →
 (false = true → False) ∧ (false = false → False)))) ∧
 (true = false → False)) ∧
 (nat_lit 2 ≤ nat_lit 1 → (false = true → False) ∧ (false = false → False)))) ∧
 (true = false → False)) ∧
 (nat_lit 2 ≤ nat_lit 0 → (false = true → False) ∧ (false = false → False))))) ∧
 (decide ((↑x : Int) < (↑(bytesL bs).length : Int)) = false →
 RetIs (AV.int IntKind.i64 (-1 : Int)) []
 (AV.int IntKind.i64 (if stL bs < bs.length then (↑(stL bs) : Int) else (-1 : Int)), [])))) ∧
 (b = false →
 (∃ (y : Nat),
 ValsAre [AV.sl (nat_lit 1) (bytesL bs) Own.no, AV.str [(34 : UInt8), (10 : UInt8)], AV.int IntKind.i64 (0 : Int)]
 [AV.sl (nat_lit 1) (bytesL bs) Own.no, AV.str [(34 : UInt8), (10 : UInt8)], AV.int IntKind.i64 (↑y : Int)] ∧
 StIs { boxes := [], live := [] } { boxes := [], live := [] } ∧ y ≤ stL bs ∧ True) ∧
 ∀ (x : Nat),
 x ≤ stL bs →
 (decide ((↑x : Int) < (↑(bytesL bs).length : Int)) = true →
 ((0 : Int) ≤ (↑x : Int) ∧ (↑x : Int) < (↑(bytesL bs).length : Int)) ∧
 ∃ (n : Int),
 takeAt PP (nat_lit 5) (bytesL bs) (↑x : Int).toNat (nat_lit 0) = some (AV.int IntKind.u8 n) ∧
 (decide (IntKind.i32.wrap n < (128 : Int)) = true →
 ((0 : Int) ≤ (↑x : Int) ∧ (↑x : Int) < (↑(bytesL bs).length : Int)) ∧
 ∃ (n : Int),
 takeAt PP (nat_lit 5) (bytesL bs) (↑x : Int).toNat (nat_lit 0) = some (AV.int IntKind.u8 n) ∧
 ∃ (n_1 : Int),
 CallIs (some (AV.int IntKind.i64 (Lib.indexByte [(34 : UInt8), (10 : UInt8)] n.toNat.toUInt8), []))
 (AV.int IntKind.i64 n_1) [] ∧
 (decide (n_1 ≥ (0 : Int)) = true →
 RetIs (AV.int IntKind.i64 (↑x : Int)) []
 (AV.int IntKind.i64 (if stL bs < bs.length then (↑(stL bs) : Int) else (-1 : Int)), [])) ∧
 (decide (n_1 ≥ (0 : Int)) = false →
 ∃ (y : Nat),
 ValsAre
 [AV.sl (nat_lit 1) (bytesL bs) Own.no, AV.str [(34 : UInt8), (10 : UInt8)],
 AV.int IntKind.i64 (IntKind.i64.wrap ((↑x : Int) + (1 : Int)))]
 [AV.sl (nat_lit 1) (bytesL bs) Own.no, AV.str [(34 : UInt8), (10 : UInt8)],
 AV.int IntKind.i64 (↑y : Int)] ∧
 StIs { boxes := [], live := [] } { boxes := [], live := [] } ∧
 y ≤ stL bs ∧ bs.length - y < bs.length - x)) ∧
 (decide (IntKind.i32.wrap n < (128 : Int)) = false →
 (0 : Int) ≤ (↑x : Int) ∧
 ((↑x : Int).toNat ≤ (bytesL bs).length ∧ (bytesL bs).length ≤ (bytesL bs).length) ∧
 (nat_lit 1 = nat_lit 1 ∨ bytesL bs = []) ∧
 ∃ (n : Int),
 ∃ (n_1 : Int),
 CallIs
 (tbl
 [(nat_lit 62, sIndexByteString), (nat_lit 64, s64), (nat_lit 65, s65), (nat_lit 67, s67),
 (nat_lit 68, s68 m)]
 (nat_lit 67)
 [AV.sl (nat_lit 1) (List.drop (↑x : Int).toNat (List.take (bytesL bs).length (bytesL bs))) Own.no])
 (AV.tup [AV.int IntKind.i32 n, AV.int IntKind.i64 n_1]) [] ∧
 ((n != (65533 : Int)) = true →
 (((2 : Int) == n_1) = true →
 (([(34 : UInt8), (10 : UInt8)] == (Utf8.encode n).data.toList) = true →
 RetIs (AV.int IntKind.i64 (↑x : Int)) []
 (AV.int IntKind.i64 (if stL bs < bs.length then (↑(stL bs) : Int) else (-1 : Int)), [])) ∧
 (([(34 : UInt8), (10 : UInt8)] == (Utf8.encode n).data.toList) = false →
 ∃ (y : Nat),
 ValsAre
 [AV.sl (nat_lit 1) (bytesL bs) Own.no, AV.str [(34 : UInt8), (10 : UInt8)],
 AV.int IntKind.i64 (IntKind.i64.wrap ((↑x : Int) + n_1))]
 [AV.sl (nat_lit 1) (bytesL bs) Own.no, AV.str [(34 : UInt8), (10 : UInt8)],
 AV.int IntKind.i64 (↑y : Int)] ∧
 StIs { boxes := [], live := [] } { boxes := [], live := [] } ∧
 y ≤ stL bs ∧ bs.length - y < bs.length - x)) ∧
 (((2 : Int) == n_1) = false →
 ∃ (n_2 : Int),
 some (AV.int IntKind.i64 m) = some (AV.int IntKind.i64 n_2) ∧
 (decide (n_2 ≥ n_1) = true →
 ∃ (n_3 : Int),
 CallIs
 (tbl
 [(nat_lit 62, sIndexByteString), (nat_lit 64, s64), (nat_lit 65, s65),
 (nat_lit 67, s67), (nat_lit 68, s68 m)]
 (nat_lit 68)
 [AV.str [(34 : UInt8), (10 : UInt8)], AV.str (Utf8.encode n).data.toList])
 (AV.int IntKind.i64 n_3) [] ∧
 (decide (n_3 ≥ (0 : Int)) = true →
 RetIs (AV.int IntKind.i64 (↑x : Int)) []
 (AV.int IntKind.i64
 (if stL bs < bs.length then (↑(stL bs) : Int) else (-1 : Int)),
 [])) ∧
 (decide (n_3 ≥ (0 : Int)) = false →
 ∃ (y : Nat),
 ValsAre
 [AV.sl (nat_lit 1) (bytesL bs) Own.no, AV.str [(34 : UInt8), (10 : UInt8)],
 AV.int IntKind.i64 (IntKind.i64.wrap ((↑x : Int) + n_1))]
 [AV.sl (nat_lit 1) (bytesL bs) Own.no, AV.str [(34 : UInt8), (10 : UInt8)],
 AV.int IntKind.i64 (↑y : Int)] ∧
 StIs { boxes := [], live := [] } { boxes := [], live := [] } ∧
 y ≤ stL bs ∧ bs.length - y < bs.length - x)) ∧
 (decide (n_2 ≥ n_1) = false →
 (nat_lit 0 < nat_lit 2 →
 (true = true →
 ((n == (34 : Int)) = true →
 RetIs (AV.int IntKind.i64 (↑x : Int)) []
 (AV.int IntKind.i64
 (if stL bs < bs.length then (↑(stL bs) : Int) else (-1 : Int)),
 [])) ∧
 ((n == (34 : Int)) = false →
 (nat_lit 1 < nat_lit 2 →
 (true = true →
 ((n == (10 : Int)) = true →
 RetIs (AV.int IntKind.i64 (↑x : Int)) []
 (AV.int IntKind.i64
 (if stL bs < bs.length then (↑(stL bs) : Int)
 else (-1 : Int)),
 [])) ∧
 ((n == (10 : Int)) = false →
 (nat_lit 2 < nat_lit 2 →
 (true = true →
 ((n == (0 : Int)) = true →
 RetIs (AV.int IntKind.i64 (↑x : Int)) []
 (AV.int IntKind.i64
 (if stL bs < bs.length then (↑(stL bs) : Int)
 else (-1 : Int)),
 [])) ∧
 ((n == (0 : Int)) = false → False)) ∧
 (true = false →
 ∃ (y : Nat),
 ValsAre
 [AV.sl (nat_lit 1) (bytesL bs) Own.no,
 AV.str [(34 : UInt8), (10 : UInt8)],
 AV.int IntKind.i64
 (IntKind.i64.wrap ((↑x : Int) + n_1))]
 [AV.sl (nat_lit 1) (bytesL bs) Own.no,
 AV.str [(34 : UInt8), (10 : UInt8)],
 AV.int IntKind.i64 (↑y : Int)] ∧
 StIs { boxes := [], live := [] }
 { boxes := [], live := [] } ∧
 y ≤ stL bs ∧ bs.length - y < bs.length - x)) ∧
 (nat_lit 2 ≤ nat_lit 2 →
 (false = true → False) ∧
 (false = false →
 ∃ (y : Nat),
 ValsAre
 [AV.sl (nat_lit 1) (bytesL bs) Own.no,
 AV.str [(34 : UInt8), (10 : UInt8)],
 AV.int IntKind.i64
 (IntKind.i64.wrap ((↑x : Int) + n_1))]
 [AV.sl (nat_lit 1) (bytesL bs) Own.no,
 AV.str [(34 : UInt8), (10 : UInt8)],
 AV.int IntKind.i64 (↑y : Int)] ∧
 StIs { boxes := [], live := [] }
 { boxes := [], live := [] } ∧
 y ≤ stL bs ∧ bs.length - y < bs.length - x)))) ∧
 (true = false →
 ∃ (y : Nat),
 ValsAre
 [AV.sl (nat_lit 1) (bytesL bs) Own.no,
 AV.str [(34 : UInt8), (10 : UInt8)],
 AV.int IntKind.i64 (IntKind.i64.wrap ((↑x : Int) + n_1))]
 [AV.sl (nat_lit 1) (bytesL bs) Own.no,
 AV.str [(34 : UInt8), (10 : UInt8)],
 AV.int IntKind.i64 (↑y : Int)] ∧
 StIs { boxes := [], live := [] } { boxes := [], live := [] } ∧
 y ≤ stL bs ∧ bs.length - y < bs.length - x)) ∧
 (nat_lit 2 ≤ nat_lit 1 →
 (false = true → False) ∧
 (false = false →
 ∃ (y : Nat),
 ValsAre
 [AV.sl (nat_lit 1) (bytesL bs) Own.no,
 AV.str [(34 : UInt8), (10 : UInt8)],
 AV.int IntKind.i64 (IntKind.i64.wrap ((↑x : Int) + n_1))]
 [AV.sl (nat_lit 1) (bytesL bs) Own.no,
 AV.str [(34 : UInt8), (10 : UInt8)],
 AV.int IntKind.i64 (↑y : Int)] ∧
 StIs { boxes := [], live := [] } { boxes := [], live := [] } ∧
 y ≤ stL bs ∧ bs.length - y < bs.length - x)))) ∧
 (true = false →
 ∃ (y : Nat),
 ValsAre
 [AV.sl (nat_lit 1) (bytesL bs) Own.no, AV.str [(34 : UInt8), (10 : UInt8)],
 AV.int IntKind.i64 (IntKind.i64.wrap ((↑x : Int) + n_1))]
 [AV.sl (nat_lit 1) (bytesL bs) Own.no, AV.str [(34 : UInt8), (10 : UInt8)],
 AV.int IntKind.i64 (↑y : Int)] ∧
 StIs { boxes := [], live := [] } { boxes := [], live := [] } ∧
 y ≤ stL bs ∧ bs.length - y < bs.length - x)) ∧
 (nat_lit 2 ≤ nat_lit 0 →
 (false = true → False) ∧
 (false = false →
 ∃ (y : Nat),
 ValsAre
 [AV.sl (nat_lit 1) (bytesL bs) Own.no, AV.str [(34 : UInt8), (10 : UInt8)],
 AV.int IntKind.i64 (IntKind.i64.wrap ((↑x : Int) + n_1))]
 [AV.sl (nat_lit 1) (bytesL bs) Own.no, AV.str [(34 : UInt8), (10 : UInt8)],
 AV.int IntKind.i64 (↑y : Int)] ∧
 StIs { boxes := [], live := [] } { boxes := [], live := [] } ∧
 y ≤ stL bs ∧ bs.length - y < bs.length - x))))) ∧
 ((n != (65533 : Int)) = false →
 (nat_lit 0 < nat_lit 2 →
 (true = true →
 ((n == (34 : Int)) = true →
 RetIs (AV.int IntKind.i64 (↑x : Int)) []
 (AV.int IntKind.i64 (if stL bs < bs.length then (↑(stL bs) : Int) else (-1 : Int)), [])) ∧
 ((n == (34 : Int)) = false →
 (nat_lit 1 < nat_lit 2 →
 (true = true →
 ((n == (10 : Int)) = true →
 RetIs (AV.int IntKind.i64 (↑x : Int)) []
 (AV.int IntKind.i64
 (if stL bs < bs.length then (↑(stL bs) : Int) else (-1 : Int)),
 [])) ∧
 ((n == (10 : Int)) = false →
 (nat_lit 2 < nat_lit 2 →
 (true = true →
 ((n == (0 : Int)) = true →
 RetIs (AV.int IntKind.i64 (↑x : Int)) []
 (AV.int IntKind.i64
 (if stL bs < bs.length then (↑(stL bs) : Int)
 else (-1 : Int)),
 [])) ∧
 ((n == (0 : Int)) = false → False)) ∧
 (true = false →
 ∃ (y : Nat),
 ValsAre
 [AV.sl (nat_lit 1) (bytesL bs) Own.no,
 AV.str [(34 : UInt8), (10 : UInt8)],
 AV.int IntKind.i64 (IntKind.i64.wrap ((↑x : Int) + n_1))]
 [AV.sl (nat_lit 1) (bytesL bs) Own.no,
 AV.str [(34 : UInt8), (10 : UInt8)],
 AV.int IntKind.i64 (↑y : Int)] ∧
 StIs { boxes := [], live := [] } { boxes := [], live := [] } ∧
 y ≤ stL bs ∧ bs.length - y < bs.length - x)) ∧
 (nat_lit 2 ≤ nat_lit 2 →
 (false = true → False) ∧
 (false = false →
 ∃ (y : Nat),
 ValsAre
 [AV.sl (nat_lit 1) (bytesL bs) Own.no,
 AV.str [(34 : UInt8), (10 : UInt8)],
 AV.int IntKind.i64 (IntKind.i64.wrap ((↑x : Int) + n_1))]
 [AV.sl (nat_lit 1) (bytesL bs) Own.no,
 AV.str [(34 : UInt8), (10 : UInt8)],
 AV.int IntKind.i64 (↑y : Int)] ∧
 StIs { boxes := [], live := [] } { boxes := [], live := [] } ∧
 y ≤ stL bs ∧ bs.length - y < bs.length - x)))) ∧
 (true = false →
 ∃ (y : Nat),
 ValsAre
 [AV.sl (nat_lit 1) (bytesL bs) Own.no, AV.str [(34 : UInt8), (10 : UInt8)],
 AV.int IntKind.i64 (IntKind.i64.wrap ((↑x : Int) + n_1))]
 [AV.sl (nat_lit 1) (bytesL bs) Own.no, AV.str [(34 : UInt8), (10 : UInt8)],
 AV.int IntKind.i64 (↑y : Int)] ∧
 StIs { boxes := [], live := [] } { boxes := [], live := [] } ∧
 y ≤ stL bs ∧ bs.length - y < bs.length - x)) ∧
 (nat_lit 2 ≤ nat_lit 1 →
 (false = true → False) ∧
 (false = false →
 ∃ (y : Nat),
 ValsAre
 [AV.sl (nat_lit 1) (bytesL bs) Own.no, AV.str [(34 : UInt8), (10 : UInt8)],
 AV.int IntKind.i64 (IntKind.i64.wrap ((↑x : Int) + n_1))]
 [AV.sl (nat_lit 1) (bytesL bs) Own.no, AV.str [(34 : UInt8), (10 : UInt8)],
 AV.int IntKind.i64 (↑y : Int)] ∧
 StIs { boxes := [], live := [] } { boxes := [], live := [] } ∧
 y ≤ stL bs ∧ bs.length - y < bs.length - x)))) ∧
 (true = false →
 ∃ (y : Nat),
 ValsAre
 [AV.sl (nat_lit 1) (bytesL bs) Own.no, AV.str [(34 : UInt8), (10 : UInt8)],
 AV.int IntKind.i64 (IntKind.i64.wrap ((↑x : Int) + n_1))]
 [AV.sl (nat_lit 1) (bytesL bs) Own.no, AV.str [(34 : UInt8), (10 : UInt8)],
 AV.int IntKind.i64 (↑y : Int)] ∧
 StIs { boxes := [], live := [] } { boxes := [], live := [] } ∧
 y ≤ stL bs ∧ bs.length - y < bs.length - x)) ∧
 (nat_lit 2 ≤ nat_lit 0 →
 (false = true → False) ∧
 (false = false →
 ∃ (y : Nat),
 ValsAre
 [AV.sl (nat_lit 1) (bytesL bs) Own.no, AV.str [(34 : UInt8), (10 : UInt8)],
 AV.int IntKind.i64 (IntKind.i64.wrap ((↑x : Int) + n_1))]
 [AV.sl (nat_lit 1) (bytesL bs) Own.no, AV.str [(34 : UInt8), (10 : UInt8)],
 AV.int IntKind.i64 (↑y : Int)] ∧
 StIs { boxes := [], live := [] } { boxes := [], live := [] } ∧
 y ≤ stL bs ∧ bs.length - y < bs.length - x))))) ∧
 (decide ((↑x : Int) < (↑(bytesL bs).length : Int)) = false →
 RetIs (AV.int IntKind.i64 (-1 : Int)) []
 (AV.int IntKind.i64 (if stL bs < bs.length then (↑(stL bs) : Int) else (-1 : Int)), []))))))) := by kernel_rfl
end Go.Abs
