/- Own texts, part 7. -/
import Derived.Test.YtfcdefnkhkijaaaGreatDoorPart6
import Derived.Lib.AtoiErrMem
import Derived.Lib.IndexEntry
import Derived.Laws.BitsLemmas
import Derived.Test.YtfcdefnkhkijaaaGreatDoorPart5

namespace Go.Abs.Lx
open Go.Proofs L8
abbrev w86c5 (b0:List AV) (b2:List AV) (p:Nat × TypeId) (q:Nat × TypeId):St:={ boxes:=[some b0,some keptClasses,some b2],live:=[p,q] }
abbrev w86c1 (n:Int) (bs:List UInt8) (b0:List AV) (b2:List AV) (p:Nat × TypeId) (q:Nat × TypeId):AV × St:=(AV.tup [I6 (piece (List.drop n.toNat bs)).fst,I6 (n + (↑(piece (List.drop n.toNat bs)).snd.fst:Int)),I6 (piece (List.drop n.toNat bs)).snd.snd],(w86c5 b0 b2 p q))
abbrev w86c2 (n:Int) (bs:List UInt8):=(↑(runL [AV.int IntKind.u8 3] (List.drop n.toNat (bytesD (bytesL bs)))):Int)
abbrev w86c18 (n:Int) (bs:List UInt8):Prop:=(0:Int)≤n∧n < (↑(bytesL bs).length:Int)
abbrev w86c17 (n:Int):=AV.tup [I6 5,I6 (IntKind.i64.wrap (IntKind.i64.wrap (n + (1:Int)) + (1:Int))),I6 0]
abbrev w86c7 (n:Int):=AV.tup [I6 5,I6 (IntKind.i64.wrap (n + (1:Int))),I6 0]
abbrev w86c4 (n:Int):=AV.tup [I6 (-1),I6 (IntKind.i64.wrap (n + (1:Int))),I6 80]
abbrev w86c11 (n:Int) (b0:List AV) (b2:List AV):=AV.p2 3 (w86c4 n) && boxesOk 3 [some b0,some keptClasses,some b2]
abbrev w86c3 (n:Int) (bs:List UInt8) (b0:List AV) (b2:List AV) (p:Nat × TypeId) (q:Nat × TypeId):Prop:=decide (IntKind.i64.wrap (n + (1:Int)) < (↑(bytesL bs).length:Int)) = true→((0:Int)≤IntKind.i64.wrap (n + (1:Int))∧IntKind.i64.wrap (n + (1:Int)) < (↑(bytesL bs).length:Int))∧∃ (n_3:Int),takeAt PQ 5 (bytesL bs) (IntKind.i64.wrap (n + (1:Int))).toNat 0 = some (AV.int IntKind.u8 n_3)∧((n_3 == (61:Int)) = true→(w86c18 n bs)∧∃ (n_4:Int),takeAt PQ 5 (bytesL bs) n.toNat 0 = some (AV.int IntKind.u8 n_4)∧∃ (n_5:Int),CallIs (some (AV.int IntKind.i64 (Lib.indexByte [(61:UInt8),(33:UInt8),(60:UInt8)] n_4.toNat.toUInt8),[])) (AV.int IntKind.i64 n_5) []∧(decide (n_5 ≥ (0:Int)) = true→RetOpen (AV.p2 3 (w86c17 n) && boxesOk 3 [some b0,some keptClasses,some b2]) (w86c17 n) (w86c5 b0 b2 p q) (w86c1 n bs b0 b2 p q))∧(decide (n_5 ≥ (0:Int)) = false→(w86c18 n bs)∧∃ (n_6:Int),takeAt PQ 5 (bytesL bs) n.toNat 0 = some (AV.int IntKind.u8 n_6)∧((n_6 != (33:Int)) = true→RetOpen (AV.p2 3 (w86c7 n) && boxesOk 3 [some b0,some keptClasses,some b2]) (w86c7 n) (w86c5 b0 b2 p q) (w86c1 n bs b0 b2 p q))∧((n_6 != (33:Int)) = false→RetOpen (w86c11 n b0 b2) (w86c4 n) (w86c5 b0 b2 p q) (w86c1 n bs b0 b2 p q))))∧((n_3 == (61:Int)) = false→(w86c18 n bs)∧∃ (n_4:Int),takeAt PQ 5 (bytesL bs) n.toNat 0 = some (AV.int IntKind.u8 n_4)∧((n_4 != (33:Int)) = true→RetOpen (AV.p2 3 (w86c7 n) && boxesOk 3 [some b0,some keptClasses,some b2]) (w86c7 n) (w86c5 b0 b2 p q) (w86c1 n bs b0 b2 p q))∧((n_4 != (33:Int)) = false→RetOpen (w86c11 n b0 b2) (w86c4 n) (w86c5 b0 b2 p q) (w86c1 n bs b0 b2 p q)))
abbrev w86c6 (n:Int) (bs:List UInt8):=(↑(runL [AV.int IntKind.u8 3] (List.drop (IntKind.i64.wrap (n + (w86c2 n bs) + (1:Int))).toNat (bytesD (bytesL bs)))):Int)
abbrev w86c8 (n:Int) (bs:List UInt8):=(↑(runL [AV.int IntKind.u8 2,AV.int IntKind.u8 3,AV.int IntKind.u8 4] (List.drop n.toNat (bytesD (bytesL bs)))):Int)
abbrev w86c9 (n:Int) (bs:List UInt8) (b0:List AV) (b2:List AV) (p:Nat × TypeId) (q:Nat × TypeId):Prop:=decide (IntKind.i64.wrap (n + (1:Int)) < (↑(bytesL bs).length:Int)) = false→(w86c18 n bs)∧∃ (n_3:Int),takeAt PQ 5 (bytesL bs) n.toNat 0 = some (AV.int IntKind.u8 n_3)∧((n_3 != (33:Int)) = true→RetOpen (AV.p2 3 (w86c7 n) && boxesOk 3 [some b0,some keptClasses,some b2]) (w86c7 n) (w86c5 b0 b2 p q) (w86c1 n bs b0 b2 p q))∧((n_3 != (33:Int)) = false→RetOpen (w86c11 n b0 b2) (w86c4 n) (w86c5 b0 b2 p q) (w86c1 n bs b0 b2 p q))
abbrev w86c10 (b0:List AV) (b2:List AV) (bs:List UInt8) (n:Int):Prop:=keptClasses = keptClasses∧(b0.all (AV.p0 5) = true∧b2.all (AV.p0 5) = true)∧(∃ (bs_1:List UInt8),bytesL bs = bytesL bs_1∧bs_1.length≤(1000000:Nat)∧(0:Int)≤IntKind.i64.wrap (n + (w86c2 n bs) + (1:Int))∧IntKind.i64.wrap (n + (w86c2 n bs) + (1:Int))≤(↑bs_1.length:Int))∧∃ (qs:List UInt8),[AV.int IntKind.u8 3] = bytesL qs∧qs ≠ []
abbrev w86c12 (l:List UInt8):=tbl [(128,s128),(129,s129),(130,s130),(131,s131),(132,s132)] 129 [AV.int IntKind.i64 2,AV.str l]
abbrev w86c13 (n:Int) (bs:List UInt8):=IntKind.i64.wrap (n + (w86c2 n bs) + (1:Int)) + (w86c6 n bs)
abbrev w86c14 (n:Int) (bs:List UInt8) (n_4:Int):=AV.tup [I6 2,I6 (n + (w86c2 n bs)),I6 n_4]
abbrev w86c15 (bs:List UInt8):Prop:=(1:Nat) = (1:Nat)∨bytesL bs = []
abbrev w86c16 (n:Int) (bs:List UInt8):=List.take (n + (w86c2 n bs)).toNat (bytesL bs)
abbrev w86c19 (n:Int) (bs:List UInt8):Prop:=n.toNat≤(n + (w86c2 n bs)).toNat∧(n + (w86c2 n bs)).toNat≤(bytesL bs).length
abbrev w86c20 (n:Int):=AV.tup [I6 0,I6 (IntKind.i64.wrap (n + (1:Int))),I6 0]
theorem w86 (m n:Int) (bs:List UInt8) (b0 b2:List AV) (p q:Nat × TypeId):(openW PQ (GQ m) XL (tbl t29) (itbl [(127,s127)]) nAn [] 86 [.sl 1 (bytesL bs) .no,.int .i64 n,.ptr 1 0] (S29 b0 b2 p q) (.tup [.int .i64 (piece (bs.drop n.toNat)).1,.int .i64 (n + (piece (bs.drop n.toNat)).2.1),.int .i64 (piece (bs.drop n.toNat)).2.2],S29 b0 b2 p q)) =
((w86c18 n bs)∧∃ (n_1:Int),takeAt PQ 5 (bytesL bs) n.toNat 0 = some (AV.int IntKind.u8 n_1)∧((0:Int)≤n_1∧n_1 < (256:Int))∧∃ (n_2:Int),takeA (some false) (some 1) keptClasses ((0:Nat) + n_1.toNat * (1:Nat)) = some (AV.int IntKind.u8 n_2)∧((n_2 == (1:Int)) = true→RetOpen (AV.p2 3 (w86c20 n) && boxesOk 3 [some b0,some keptClasses,some b2]) (w86c20 n) (w86c5 b0 b2 p q) (w86c1 n bs b0 b2 p q))∧((n_2 == (1:Int)) = false→((n_2 == (6:Int)) = true→(0:Int)≤n∧(n.toNat≤(bytesL bs).length∧(bytesL bs).length≤(bytesL bs).length)∧(w86c15 bs)∧∃ (n_3:Int),CallIs (tbl [(128,s128),(129,s129),(130,s130),(131,s131),(132,s132)] 128 [AV.sl 1 (List.drop n.toNat (List.take (bytesL bs).length (bytesL bs))) Own.no,AV.int IntKind.u8 10]) (I6 n_3) []∧(decide (n_3 ≥ (0:Int)) = true→RetOpen (AV.p2 3 (AV.tup [I6 0,I6 (IntKind.i64.wrap (n + n_3)),I6 0]) && boxesOk 3 [some b0,some keptClasses,some b2]) (AV.tup [I6 0,I6 (IntKind.i64.wrap (n + n_3)),I6 0]) (w86c5 b0 b2 p q) (w86c1 n bs b0 b2 p q))∧(decide (n_3 ≥ (0:Int)) = false→RetOpen (AV.p2 3 (AV.tup [I6 0,I6 (↑(bytesL bs).length:Int),I6 0]) && boxesOk 3 [some b0,some keptClasses,some b2]) (AV.tup [I6 0,I6 (↑(bytesL bs).length:Int),I6 0]) (w86c5 b0 b2 p q) (w86c1 n bs b0 b2 p q)))∧((n_2 == (6:Int)) = false→((n_2 == (2:Int)) = true→(keptClasses = keptClasses∧(b0.all (AV.p0 5) = true∧b2.all (AV.p0 5) = true)∧(∃ (bs_1:List UInt8),bytesL bs = bytesL bs_1∧bs_1.length≤(1000000:Nat)∧(0:Int)≤n∧n≤(↑bs_1.length:Int))∧∃ (qs:List UInt8),[AV.int IntKind.u8 2,AV.int IntKind.u8 3,AV.int IntKind.u8 4] = bytesL qs∧qs ≠ [])∧(decide (IntKind.i64.wrap (n + (w86c8 n bs) - n) > (24:Int)) = true→RetOpen (AV.p2 3 (AV.tup [I6 1,I6 (n + (w86c8 n bs)),I6 2]) && boxesOk 3 [some b0,some keptClasses,some b2]) (AV.tup [I6 1,I6 (n + (w86c8 n bs)),I6 2]) (w86c5 b0 b2 p q) (w86c1 n bs b0 b2 p q))∧(decide (IntKind.i64.wrap (n + (w86c8 n bs) - n) > (24:Int)) = false→RetOpen (AV.p2 3 (AV.tup [I6 1,I6 (n + (w86c8 n bs)),I6 0]) && boxesOk 3 [some b0,some keptClasses,some b2]) (AV.tup [I6 1,I6 (n + (w86c8 n bs)),I6 0]) (w86c5 b0 b2 p q) (w86c1 n bs b0 b2 p q)))∧((n_2 == (2:Int)) = false→((n_2 == (3:Int)) = true→(keptClasses = keptClasses∧(b0.all (AV.p0 5) = true∧b2.all (AV.p0 5) = true)∧(∃ (bs_1:List UInt8),bytesL bs = bytesL bs_1∧bs_1.length≤(1000000:Nat)∧(0:Int)≤n∧n≤(↑bs_1.length:Int))∧∃ (qs:List UInt8),[AV.int IntKind.u8 3] = bytesL qs∧qs ≠ [])∧(decide (n + (w86c2 n bs) < (↑(bytesL bs).length:Int)) = true→((0:Int)≤n + (w86c2 n bs)∧n + (w86c2 n bs) < (↑(bytesL bs).length:Int))∧∃ (n_3:Int),takeAt PQ 5 (bytesL bs) (n + (w86c2 n bs)).toNat 0 = some (AV.int IntKind.u8 n_3)∧((n_3 == (46:Int)) = true→(w86c10 b0 b2 bs n)∧(decide (IntKind.i64.wrap (n + (w86c2 n bs) + (1:Int)) + (w86c6 n bs) > IntKind.i64.wrap (n + (w86c2 n bs) + (1:Int))) = true→(w86c10 b0 b2 bs n)∧(0:Int)≤n∧(0:Int)≤IntKind.i64.wrap (n + (w86c2 n bs) + (1:Int)) + (w86c6 n bs)∧(n.toNat≤(w86c13 n bs).toNat∧(w86c13 n bs).toNat≤(bytesL bs).length)∧(w86c15 bs)∧((1:Nat) = (1:Nat)∨List.drop n.toNat (List.take (w86c13 n bs).toNat (bytesL bs)) = [])∧∃ (l:List UInt8),List.mapM byteOf (List.drop n.toNat (List.take (w86c13 n bs).toNat (bytesL bs))) = some l∧∃ (n_4:Int),CallIs (tbl [(128,s128),(129,s129),(130,s130),(131,s131),(132,s132)] 129 [I6 3,AV.str l]) (I6 n_4) []∧RetOpen (AV.p2 3 (AV.tup [I6 3,I6 (w86c13 n bs),I6 n_4]) && boxesOk 3 [some b0,some keptClasses,some b2]) (AV.tup [I6 3,I6 (w86c13 n bs),I6 n_4]) (w86c5 b0 b2 p q) (w86c1 n bs b0 b2 p q))∧(decide (IntKind.i64.wrap (n + (w86c2 n bs) + (1:Int)) + (w86c6 n bs) > IntKind.i64.wrap (n + (w86c2 n bs) + (1:Int))) = false→(0:Int)≤n∧(0:Int)≤n + (w86c2 n bs)∧(w86c19 n bs)∧(w86c15 bs)∧((1:Nat) = (1:Nat)∨List.drop n.toNat (w86c16 n bs) = [])∧∃ (l:List UInt8),List.mapM byteOf (List.drop n.toNat (w86c16 n bs)) = some l∧∃ (n_4:Int),CallIs (w86c12 l) (I6 n_4) []∧RetOpen (AV.p2 3 (w86c14 n bs n_4) && boxesOk 3 [some b0,some keptClasses,some b2]) (w86c14 n bs n_4) (w86c5 b0 b2 p q) (w86c1 n bs b0 b2 p q)))∧((n_3 == (46:Int)) = false→(0:Int)≤n∧(0:Int)≤n + (w86c2 n bs)∧(w86c19 n bs)∧(w86c15 bs)∧((1:Nat) = (1:Nat)∨List.drop n.toNat (w86c16 n bs) = [])∧∃ (l:List UInt8),List.mapM byteOf (List.drop n.toNat (w86c16 n bs)) = some l∧∃ (n_4:Int),CallIs (w86c12 l) (I6 n_4) []∧RetOpen (AV.p2 3 (w86c14 n bs n_4) && boxesOk 3 [some b0,some keptClasses,some b2]) (w86c14 n bs n_4) (w86c5 b0 b2 p q) (w86c1 n bs b0 b2 p q)))∧(decide (n + (w86c2 n bs) < (↑(bytesL bs).length:Int)) = false→(0:Int)≤n∧(0:Int)≤n + (w86c2 n bs)∧(w86c19 n bs)∧(w86c15 bs)∧((1:Nat) = (1:Nat)∨List.drop n.toNat (w86c16 n bs) = [])∧∃ (l:List UInt8),List.mapM byteOf (List.drop n.toNat (w86c16 n bs)) = some l∧∃ (n_3:Int),CallIs (w86c12 l) (I6 n_3) []∧RetOpen (AV.p2 3 (AV.tup [I6 2,I6 (n + (w86c2 n bs)),I6 n_3]) && boxesOk 3 [some b0,some keptClasses,some b2]) (AV.tup [I6 2,I6 (n + (w86c2 n bs)),I6 n_3]) (w86c5 b0 b2 p q) (w86c1 n bs b0 b2 p q)))∧((n_2 == (3:Int)) = false→((n_2 == (5:Int)) = true→(0:Int)≤IntKind.i64.wrap (n + (1:Int))∧((IntKind.i64.wrap (n + (1:Int))).toNat≤(bytesL bs).length∧(bytesL bs).length≤(bytesL bs).length)∧(w86c15 bs)∧∃ (n_3:Int),CallIs (tbl [(128,s128),(129,s129),(130,s130),(131,s131),(132,s132)] 130 [AV.sl 1 (List.drop (IntKind.i64.wrap (n + (1:Int))).toNat (List.take (bytesL bs).length (bytesL bs))) Own.no,AV.str [34,10]]) (I6 n_3) []∧(decide (n_3 < (0:Int)) = true→RetOpen (w86c11 n b0 b2) (w86c4 n) (w86c5 b0 b2 p q) (w86c1 n bs b0 b2 p q))∧(decide (n_3 < (0:Int)) = false→((0:Int)≤IntKind.i64.wrap (IntKind.i64.wrap (n + (1:Int)) + n_3)∧IntKind.i64.wrap (IntKind.i64.wrap (n + (1:Int)) + n_3) < (↑(bytesL bs).length:Int))∧∃ (n_4:Int),takeAt PQ 5 (bytesL bs) (IntKind.i64.wrap (IntKind.i64.wrap (n + (1:Int)) + n_3)).toNat 0 = some (AV.int IntKind.u8 n_4)∧((n_4 == (10:Int)) = true→RetOpen (w86c11 n b0 b2) (w86c4 n) (w86c5 b0 b2 p q) (w86c1 n bs b0 b2 p q))∧((n_4 == (10:Int)) = false→(0:Int)≤IntKind.i64.wrap (n + (1:Int))∧(0:Int)≤IntKind.i64.wrap (IntKind.i64.wrap (n + n_3) + (1:Int))∧((IntKind.i64.wrap (n + (1:Int))).toNat≤(IntKind.i64.wrap (IntKind.i64.wrap (n + n_3) + (1:Int))).toNat∧(IntKind.i64.wrap (IntKind.i64.wrap (n + n_3) + (1:Int))).toNat≤(bytesL bs).length)∧(w86c15 bs)∧∃ (n_5:Int),CallIs (tbl [(128,s128),(129,s129),(130,s130),(131,s131),(132,s132)] 131 [AV.sl 1 (List.drop (IntKind.i64.wrap (n + (1:Int))).toNat (List.take (IntKind.i64.wrap (IntKind.i64.wrap (n + n_3) + (1:Int))).toNat (bytesL bs))) Own.no]) (I6 n_5) []∧RetOpen (AV.p2 3 (AV.tup [I6 4,I6 (IntKind.i64.wrap (IntKind.i64.wrap (n + n_3) + (2:Int))),I6 n_5]) && boxesOk 3 [some b0,some keptClasses,some b2]) (AV.tup [I6 4,I6 (IntKind.i64.wrap (IntKind.i64.wrap (n + n_3) + (2:Int))),I6 n_5]) (w86c5 b0 b2 p q) (w86c1 n bs b0 b2 p q))))∧((n_2 == (5:Int)) = false→((n_2 == (7:Int)) = true→(w86c3 n bs b0 b2 p q)∧(w86c9 n bs b0 b2 p q))∧((n_2 == (7:Int)) = false→((n_2 == (8:Int)) = true→(w86c3 n bs b0 b2 p q)∧(w86c9 n bs b0 b2 p q))∧((n_2 == (8:Int)) = false→RetOpen (w86c11 n b0 b2) (w86c4 n) (w86c5 b0 b2 p q) (w86c1 n bs b0 b2 p q))))))))):=by kernel_rfl
end Go.Abs.Lx
namespace Go.Abs.Lx
open Go.Proofs L8
def tabOk (n:Nat):Bool:=
 let c:=UInt8.ofNat n
 (decide (cls n = 1) == blankB c) && (decide (cls n = 6) == (c == 35)) && (decide (cls n = 2) == letterB c) && (decide (cls n = 3) == digitB c) && (decide (cls n = 5) == (c == 34)) &&
  (decide (cls n = 7) == signB c) && (decide (cls n = 8) == (c == 33)) && ((decide (cls n = 2) || decide (cls n = 3) || decide (cls n = 4)) == innerB c)
theorem tab_ok:(List.range 256).all tabOk = true:=by kernel_rfl
structure ClsIs (c:UInt8):Prop where
 b1:cls c.toNat = 1 ↔ blankB c = true
 b6:cls c.toNat = 6 ↔ (c == 35) = true
 b2:cls c.toNat = 2 ↔ letterB c = true
 b3:cls c.toNat = 3 ↔ digitB c = true
 b5:cls c.toNat = 5 ↔ (c == 34) = true
 b7:cls c.toNat = 7 ↔ signB c = true
 b8:cls c.toNat = 8 ↔ (c == 33) = true
 inn:(cls c.toNat = 2∨cls c.toNat = 3∨cls c.toNat = 4) ↔ innerB c = true
theorem cls_is (c:UInt8):ClsIs c:=by
 have h:=List.all_eq_true.1 tab_ok c.toNat (List.mem_range.2 c.toNat_lt)
 simp only [tabOk,Bool.and_eq_true,beq_iff_eq,UInt8.ofNat_toNat] at h
 obtain ⟨⟨⟨⟨⟨⟨⟨h1,h2⟩,h3⟩,h4⟩,h5⟩,h6⟩,h7⟩,h8⟩:=h
 refine ⟨?_,?_,?_,?_,?_,?_,?_,?_⟩
 ·rw [← h1]; simp
 ·rw [← h2]; simp
 ·rw [← h3]; simp
 ·rw [← h4]; simp
 ·rw [← h5]; simp
 ·rw [← h6]; simp
 ·rw [← h7]; simp
 ·rw [← h8]; simp [or_assoc]
theorem inCls_inner:inCls [.int .u8 2,.int .u8 3,.int .u8 4] = innerB:=by
 funext c
 have h:=(cls_is c).inn
 have e:inCls [.int .u8 2,.int .u8 3,.int .u8 4] c = true ↔ innerB c = true:=by
  rw [← h]
  show ((([2,3,4]:List UInt8).any fun p=>p.toNat == cls c.toNat) = true) ↔ _
  simp
  omega
 cases h1:inCls [.int .u8 2,.int .u8 3,.int .u8 4] c <;> cases h2:innerB c <;> simp_all
theorem inCls_digit:inCls [.int .u8 3] = digitB:=by
 funext c
 have h:=(cls_is c).b3
 have e:inCls [.int .u8 3] c = true ↔ digitB c = true:=by
  rw [← h]
  show ((([3]:List UInt8).any fun p=>p.toNat == cls c.toNat) = true) ↔ _
  simp
  omega
 cases h1:inCls [.int .u8 3] c <;> cases h2:digitB c <;> simp_all
theorem runL_inner {c:UInt8} {t:List UInt8} (h:innerB c = true):runL [.int .u8 2,.int .u8 3,.int .u8 4] (c :: t) = 1 + (t.takeWhile innerB).length:=by
 rw [runL,inCls_inner,List.takeWhile_cons,if_pos h,List.length_cons,Nat.add_comm]
theorem runL_digit {c:UInt8} {t:List UInt8} (h:digitB c = true):runL [.int .u8 3] (c :: t) = 1 + (t.takeWhile digitB).length:=by
 rw [runL,inCls_digit,List.takeWhile_cons,if_pos h,List.length_cons,Nat.add_comm]
theorem runL_digits (l:List UInt8):runL [.int .u8 3] l = (l.takeWhile digitB).length:=by rw [runL,inCls_digit]
theorem letter_inner {c:UInt8} (h:letterB c = true):innerB c = true:=by simp [innerB,h]
theorem take_tw {p:UInt8→Bool} (l:List UInt8):l.take (l.takeWhile p).length = l.takeWhile p:=(List.prefix_iff_eq_take.1 (List.takeWhile_prefix p)).symm
theorem tbl_hit {g:FuncId} {s:Spec} {l:List (FuncId × Spec)} {args:List AV}:tbl ((g,s) :: l) g args = s args:=by simp only [tbl,if_true]
theorem tbl_miss {f g:FuncId} {s:Spec} {l:List (FuncId × Spec)} {args:List AV} (h:f ≠ g):tbl ((g,s) :: l) f args = tbl l f args:=by simp only [tbl,if_neg h]
theorem s39_int {l:List UInt8} (h:intB l = true) (hl:l.length≤1000000):s129 [.int .i64 2,.str l] = some (.int .i64 (intErr l),[]):=by
 simp only [s129]
 rw [if_pos hl,if_neg (fun h=>absurd h.1 (by decide)),if_pos ⟨trivial,h⟩]
theorem s39_dec {l:List UInt8} (h:decB l = true) (hl:l.length≤1000000):s129 [.int .i64 3,.str l] = some (.int .i64 (decErr l),[]):=by
 simp only [s129]
 rw [if_pos hl,if_pos ⟨trivial,h⟩]
theorem tb39 {args:List AV}:tbl [(128,s128),(129,s129),(130,s130),(131,s131),(132,s132)] 129 args = s129 args:=by
 rw [tbl_miss (fun h=>absurd h (by decide)),tbl_hit]
theorem tb40 {args:List AV}:tbl [(128,s128),(129,s129),(130,s130),(131,s131),(132,s132)] 130 args = s130 args:=by
 rw [tbl_miss (fun h=>absurd h (by decide)),tbl_miss (fun h=>absurd h (by decide)),tbl_hit]
theorem tb41 {args:List AV}:tbl [(128,s128),(129,s129),(130,s130),(131,s131),(132,s132)] 131 args = s131 args:=by
 rw [tbl_miss (fun h=>absurd h (by decide)),tbl_miss (fun h=>absurd h (by decide)),tbl_miss (fun h=>absurd h (by decide)),tbl_hit]
theorem tw_append {a:List UInt8} (ha:a.all digitB = true) (b:List UInt8):(a ++ 46 :: b).takeWhile digitB = a:=by
 induction a with
 | nil=>rfl
 | cons x a ih =>
  simp only [List.all_cons,Bool.and_eq_true] at ha
  rw [List.cons_append,List.takeWhile_cons,if_pos ha.1,ih ha.2]
theorem decB_mk {a b:List UInt8} (ha:a.all digitB = true) (hne:a ≠ []) (hb:b.all digitB = true) (hb0:b ≠ []):decB (a ++ 46 :: b) = true:=by
 have h1:(a ++ 46 :: b)[a.length]? = some 46:=by simp
 have h2:(a ++ 46 :: b).drop (a.length + 1) = b:=by
  rw [show a ++ 46 :: b = (a ++ [46]) ++ b by simp,List.drop_left' (by simp)]
 simp only [decB,tw_append ha,h1,h2,intB,hne,hb,hb0,ne_eq,not_false_eq_true,decide_true,Bool.and_self]
theorem s130_eq {t:List UInt8} (h:t.length≤1000000):s130 [.sl 1 (bytesL t) .no,.str [34,10]] = some (.int .i64 (if (t.takeWhile lineB).length < t.length then ((t.takeWhile lineB).length:Int) else -1),[]):=by
 simp only [s130,onBytes,unBytes_mk,if_true]
 rw [if_pos h]
theorem s131_eq {t:List UInt8} (h:t.length≤1000000):s131 [.sl 1 (bytesL t) .no] = some (.int .i64 (txtErr t),[]):=by
 simp only [s131,onBytes,unBytes_mk,if_true]
 rw [if_pos h]
theorem UInt8.toUInt8_toNat' (c:UInt8):c.toNat.toUInt8 = c:=by simp
theorem tw_at {p:UInt8→Bool} {l:List UInt8} (h:(l.takeWhile p).length < l.length):p (l.getD (l.takeWhile p).length 0) = false:=by
 cases hp:p (l.getD (l.takeWhile p).length 0) with
 | false=>rfl
 | true =>
  have:=tw_next (p:=p) (l:=l) (k:=(l.takeWhile p).length) (Nat.le_refl _) h hp
  omega
theorem tw_self {p:UInt8→Bool}:∀ {l:List UInt8},(∀ y ∈ l,p y = true)→l.takeWhile p = l
 | [],_=>rfl
 | a :: l,h=>by
  rw [List.takeWhile_cons,if_pos (h a List.mem_cons_self),tw_self fun y hy=>h y (List.mem_cons_of_mem _ hy)]
theorem s128_eq {bs:List UInt8} {c:Int} (hb:bs ≠ []):s128 [.sl 1 (bytesL bs) .no,.int .u8 c] = some (.int .i64 (Lib.indexByte bs c.toNat.toUInt8),[]):=by
 have h1:bytesL bs ≠ []:=by simpa [bytesL] using hb
 show (if 1 = 1∧bytesL bs ≠ [] then onBytes (bytesL bs) fun bs=>some (AV.int .i64 (Lib.indexByte bs c.toNat.toUInt8),([]:List (Nat × TypeId))) else none) = _
 rw [if_pos ⟨rfl,h1⟩,onBytes,unBytes_mk]
theorem ib_take {l:List UInt8} {x:UInt8}:Lib.indexByte l x = if (l.takeWhile (· != x)).length < l.length then ((l.takeWhile (· != x)).length:Int) else -1:=by
 obtain ⟨h1,h2⟩:=ib_spec l x
 by_cases h:x ∈ l
 ·rw [h1 h,if_pos]
  rcases Nat.lt_or_ge (l.takeWhile (· != x)).length l.length with hlt | hge
  ·exact hlt
  ·have he:l.takeWhile (· != x) = l:=by
    rw [← take_tw,List.take_of_length_le hge]
   have:=takeWhile_all (· != x) l
   rw [he,List.all_eq_true] at this
   exact absurd (this x h) (by simp)
 ·rw [h2 h,if_neg]
  have he:l.takeWhile (· != x) = l:=by
   refine tw_self fun y hy=>?_
   have:y ≠ x:=by rintro rfl; exact h hy
   simpa using this
  rw [he]; omega
theorem take_full (bs:List UInt8) (i:Nat):((bytesL bs).take bs.length).drop i = bytesL (bs.drop i):=by
 rw [drop_take_bytes,List.take_of_length_le (Nat.le_refl _)]
theorem p0_mono {a b:Nat} (hab:a≤b) {v:AV} (h:v.p0 a = true):v.p0 b = true:=by
 cases v with
 | _=>first | exact h | (simp only [AV.p0,decide_eq_true_eq] at h ⊢; omega)
theorem all_p0_mono {a b:Nat} (hab:a≤b) {l:List AV} (h:l.all (AV.p0 a) = true):l.all (AV.p0 b) = true:=by
 rw [List.all_eq_true] at h ⊢
 exact fun x hx=>p0_mono hab (h x hx)
theorem p86 (m:Int) (k:Nat) (bs:List UInt8) (b0 b2:List AV) (p q:Nat × TypeId) (h0:b0.all (AV.p0 3) = true) (h2':b2.all (AV.p0 3) = true) (hk:k < bs.length) (hl:bs.length≤1000000) :
  OpenOk PQ (GQ m) XL (tbl t29) (itbl [(127,s127)]) nAn [] 86 [.sl 1 (bytesL bs) .no,.int .i64 k,.ptr 1 0] (S29 b0 b2 p q) (.tup [.int .i64 (piece (bs.drop (k:Int).toNat)).1,.int .i64 (k + (piece (bs.drop (k:Int).toNat)).2.1),.int .i64 (piece (bs.drop (k:Int).toNat)).2.2],S29 b0 b2 p q):=by
 constructor
 rw [w86]; unfold w86c20 w86c19 w86c16 w86c15 w86c14 w86c13 w86c12 w86c10 w86c9 w86c8 w86c6 w86c3 w86c11 w86c4 w86c7 w86c17 w86c18 w86c2 w86c1 w86c5 I6
 have hok:boxesOk 3 [some b0,some keptClasses,some b2] = true:=by
  have hk:keptClasses.all (AV.p1 3) = true:=by kernel_rfl
  simp only [boxesOk,Bool.or_true,all_p0_p1 h0,all_p0_p1 h2',hk,Bool.and_true]
 have p2i:∀ a b c:Int,AV.p2 3 (.tup [.int .i64 a,.int .i64 b,.int .i64 c]) = true:=fun _ _ _=>rfl
 simp only [bytesD_mk,Int.toNat_natCast,List.length_map,retOpen_iff,take_u8_iff agg5 size5,hok,p2i,Bool.and_true,decide_eq_true_eq,decide_eq_false_iff_not,gt_iff_lt,ge_iff_le,true_or,true_and,and_true,List.cons.injEq,AV.int.injEq,AV.tup.injEq,Prod.mk.injEq,beq_iff_eq,bne_iff_ne,beq_eq_false_iff_ne,bne_eq_false_iff_eq,ne_eq,Nat.zero_add,Nat.mul_one]
 have hw1:IntKind.i64.wrap ((k:Int) + 1) = ((k + 1:Nat):Int):=by rw [wrap64_in (by omega) (by omega)]; omega
 have hct:bs.drop k = bs.getD k 0 :: bs.drop (k + 1):=by
  rw [List.drop_eq_getElem_cons hk]; simp [hk]
 have hcls:=cls_is (bs.getD k 0)
 have hcl:=cls_lt (bs.getD k 0).toNat
 have hcg:=cls_get (bs.getD k 0)
 have hc8:=(bs.getD k 0).toNat_lt
 have htl:(bs.drop (k + 1)).length = bs.length - (k + 1):=by simp
 simp only [hw1,Int.toNat_natCast,take_full]
 rw [hct]
 generalize hc:bs.getD k 0 = c at *
 generalize ht:bs.drop (k + 1) = t at *
 have tb38:tbl [(128,s128),(129,s129),(130,s130),(131,s131),(132,s132)] 128 [.sl 1 (bytesL (c :: t)) .no,.int .u8 10] = some (.int .i64 (Lib.indexByte (c :: t) (10:Int).toNat.toUInt8),[]):=by
  rw [tbl_hit]
  exact s128_eq (by simp)
 rw [show (10:Int).toNat.toUInt8 = 10 from rfl] at tb38
 have q3:[AV.int .u8 3] = bytesL [3]:=rfl
 have q234:[AV.int .u8 2,AV.int .u8 3,AV.int .u8 4] = bytesL [2,3,4]:=rfl
 refine ⟨⟨by omega,by omega⟩,(c.toNat:Int),⟨hk,rfl⟩,⟨by omega,by omega⟩,(cls c.toNat:Int),by simpa using hcg,fun h1=>?_,fun h1=>⟨fun h6=>?_,fun h6=>⟨fun h2=>?_,fun h2=>⟨fun h3=>?_,fun h3=>⟨fun h5=>?_,fun h5=>?_⟩⟩⟩⟩⟩
 ·have hb:blankB c = true:=hcls.b1.1 (by omega)
  simp only [piece,hb,if_true]
  exact ⟨trivial,by omega,trivial⟩
 ·have hb:¬ blankB c = true:=fun h=>h1 (by have:=hcls.b1.2 h; omega)
  have h35:(c == 35) = true:=hcls.b6.1 (by omega)
  have h35':c = 35:=by simpa using h35
  have hp:piece (c :: t) = (0,1 + (t.takeWhile (· != 10)).length,0):=by
   simp only [piece]; rw [if_neg hb,if_pos h35]
  rw [hp]
  dsimp only
  have hib:=ib_take (l:=c :: t) (x:=10)
  have hne:(c != 10) = true:=by rw [h35']; rfl
  rw [List.takeWhile_cons,if_pos hne,List.length_cons,List.length_cons] at hib
  have hle:=tw_le (p:=(· != 10)) t
  refine ⟨by omega,⟨by omega,Nat.le_refl _⟩,_,⟨tb38⟩,fun hge=>⟨rfl,?_,rfl⟩,fun hlt=>⟨rfl,?_,rfl⟩⟩
  ·rw [hib] at hge ⊢
   split at hge
   ·rename_i hl'
    rw [if_pos hl',wrap64_in (by omega) (by omega)]
    omega
   ·omega
  ·rw [hib] at hlt
   split at hlt
   ·omega
   ·have:(t.takeWhile (· != 10)).length = t.length:=by omega
    rw [this]
    omega
 ·have hb:¬ blankB c = true:=fun h=>h1 (by have:=hcls.b1.2 h; omega)
  have h35:¬ (c == 35) = true:=fun h=>h6 (by have:=hcls.b6.2 h; omega)
  have hle':letterB c = true:=hcls.b2.1 (by omega)
  have hp:piece (c :: t) = (1,1 + (t.takeWhile innerB).length,if 24 < 1 + (t.takeWhile innerB).length then 2 else 0):=by
   simp only [piece]; rw [if_neg hb,if_neg h35,if_pos hle']
  rw [hp,runL_inner (letter_inner hle')]
  have hle:=tw_le (p:=innerB) t
  rw [show ((k:Int) + (1 + (t.takeWhile innerB).length:Nat) - k) = (1 + (t.takeWhile innerB).length:Nat) by omega,wrap64_in (by omega) (by omega)]
  refine ⟨⟨⟨all_p0_mono (by omega) h0,all_p0_mono (by omega) h2'⟩,⟨bs,rfl,hl,by omega,by omega⟩,[2,3,4],q234,by simp⟩,fun h=>⟨rfl,rfl,?_⟩,fun h=>⟨rfl,rfl,?_⟩⟩
  ·rw [if_pos (by omega)]
  ·rw [if_neg (by omega)]
 ·have hb:¬ blankB c = true:=fun h=>h1 (by have:=hcls.b1.2 h; omega)
  have h35:¬ (c == 35) = true:=fun h=>h6 (by have:=hcls.b6.2 h; omega)
  have hle':¬ letterB c = true:=fun h=>h2 (by have:=hcls.b2.2 h; omega)
  have hd:digitB c = true:=hcls.b3.1 (by omega)
  rw [runL_digit hd]
  have hle:=tw_le (p:=digitB) t
  have hn:∃ n,n = 1 + (t.takeWhile digitB).length:=⟨_,rfl⟩
  obtain ⟨n,hn⟩:=hn
  rw [← hn]
  have hkn:((k:Int) + (n:Int)).toNat = k + n:=by omega
  have hwn:IntKind.i64.wrap ((k:Int) + n + 1) = ((k + n + 1:Nat):Int):=by rw [wrap64_in (by omega) (by omega)]; omega
  simp only [hkn,hwn,Int.toNat_natCast,runL_digits]
  have hdig:(c :: t).take n = (c :: t).takeWhile digitB:=by
   have:n = ((c :: t).takeWhile digitB).length:=by rw [List.takeWhile_cons,if_pos hd,List.length_cons]; omega
   rw [this,take_tw]
  have hint:intB ((c :: t).take n) = true:=by
   rw [hdig]
   simp only [intB,Bool.and_eq_true,decide_eq_true_eq]
   exact ⟨by rw [List.takeWhile_cons,if_pos hd]; simp,takeWhile_all _ _⟩
  have htk:∀ j,((bytesL bs).take (k + j)).drop k = bytesL ((c :: t).take j):=fun j=>by
   rw [drop_take_bytes,List.drop_take,hct,Nat.add_sub_cancel_left]
  have tbi:tbl [(128,s128),(129,s129),(130,s130),(131,s131),(132,s132)] 129 [.int .i64 2,.str ((c :: t).take n)] = some (.int .i64 (intErr ((c :: t).take n)),[]):=by
   rw [tb39]
   exact s39_int hint (by rw [List.length_take,List.length_cons]; omega)
  have hgn:bs.getD (k + n) 0 = t.getD (n - 1) 0:=by
   rw [← ht,getD_drop',show k + 1 + (n - 1) = k + n by omega]
  have hdrop:(c :: t).drop n = t.drop (n - 1):=by
   rw [hn,Nat.add_comm,List.drop_succ_cons]; rfl
  -- no point: an integer
  have pint:(∀ u,(c :: t).drop n = 46 :: u→(u.takeWhile digitB).length = 0)→piece (c :: t) = (2,n,intErr ((c :: t).take n)):=fun hno=>by
   simp only [piece]; rw [if_neg hb,if_neg h35,if_neg hle',if_pos hd,← hn]
   split
   ·rename_i u hu
    rw [if_pos (hno u hu)]
   ·rfl
  have fin:(∀ u,(c :: t).drop n = 46 :: u→(u.takeWhile digitB).length = 0)→0≤(k:Int)∧0≤(k:Int) + n∧(k≤k + n∧k + n≤bs.length)∧∃ l,List.mapM byteOf (((bytesL bs).take (k + n)).drop k) = some l∧∃ n_4,CallIs (tbl [(128,s128),(129,s129),(130,s130),(131,s131),(132,s132)] 129 [AV.int .i64 2,AV.str l]) (AV.int .i64 n_4) []∧2 = (piece (c :: t)).1∧(k:Int) + n = k + (piece (c :: t)).2.1∧n_4 = (piece (c :: t)).2.2:=fun hno=>by
   rw [pint hno,htk]
   exact ⟨by omega,by omega,⟨by omega,by omega⟩,_,mapByte _,_,⟨tbi⟩,rfl,rfl,rfl⟩
  refine ⟨⟨⟨all_p0_mono (by omega) h0,all_p0_mono (by omega) h2'⟩,⟨bs,rfl,hl,by omega,by omega⟩,[3],q3,by simp⟩,fun hlt=>⟨⟨by omega,by omega⟩,((t.getD (n - 1) 0).toNat:Int),⟨by omega,by rw [hgn]⟩,fun h46=>⟨⟨⟨all_p0_mono (by omega) h0,all_p0_mono (by omega) h2'⟩,⟨bs,rfl,hl,by omega,by omega⟩,[3],q3,by simp⟩,fun hgt=>⟨⟨⟨all_p0_mono (by omega) h0,all_p0_mono (by omega) h2'⟩,⟨bs,rfl,hl,by omega,by omega⟩,[3],q3,by simp⟩,?_⟩,fun hng=>?_⟩,fun h46=>?_⟩,fun hge=>?_⟩
  ·-- digits behind a point
   have h46':t.getD (n - 1) 0 = 46:=by
    rw [← UInt8.toNat_inj]
    show (t.getD (n - 1) 0).toNat = 46
    omega
   have hkn':k + n < bs.length:=by omega
   have hbk:bs[k + n] = 46:=by
    have h9:bs.getD (k + n) 0 = 46:=hgn.trans h46'
    rw [List.getD_eq_getElem?_getD,List.getElem?_eq_getElem hkn',Option.getD_some] at h9
    exact h9
   have hcu:(c :: t).drop n = 46 :: bs.drop (k + n + 1):=by
    rw [hdrop,← ht,List.drop_drop,show k + 1 + (n - 1) = k + n by omega,List.drop_eq_getElem_cons hkn',hbk]
   have hm0:(bs.drop (k + n + 1)).takeWhile digitB ≠ []:=by
    intro e; rw [e] at hgt; simp at hgt
   have hml:=tw_le (p:=digitB) (bs.drop (k + n + 1))
   rw [List.length_drop] at hml
   generalize hM:((bs.drop (k + n + 1)).takeWhile digitB).length = M at *
   have hM1:M ≠ 0:=by rw [← hM]; simpa using hm0
   have hp:piece (c :: t) = (3,n + 1 + M,decErr ((c :: t).take (n + 1 + M))):=by
    simp only [piece]; rw [if_neg hb,if_neg h35,if_neg hle',if_pos hd,← hn,hcu]
    simp only
    rw [hM,if_neg hM1]
   have hlen:(c :: t).length = bs.length - k:=by rw [← hct,List.length_drop]
   have e1:(c :: t).take (n + 1 + M) = (c :: t).takeWhile digitB ++ 46 :: (bs.drop (k + n + 1)).takeWhile digitB:=by
    have:(c :: t) = (c :: t).take n ++ (c :: t).drop n:=(List.take_append_drop _ _).symm
    rw [hdig,hcu] at this
    have hln:((c :: t).takeWhile digitB).length = n:=by rw [← hdig,List.length_take]; omega
    conv=>lhs; rw [this]
    rw [List.take_append,hln,List.take_of_length_le (by omega),show n + 1 + M - n = M + 1 by omega,List.take_succ_cons,← hM,take_tw]
   have hdec:decB ((c :: t).take (n + 1 + M)) = true:=by
    rw [e1]
    have ha:=takeWhile_all digitB (c :: t)
    have hane:(c :: t).takeWhile digitB ≠ []:=by rw [List.takeWhile_cons,if_pos hd]; simp
    exact decB_mk ha hane (takeWhile_all _ _) hm0
   have tbd:tbl [(128,s128),(129,s129),(130,s130),(131,s131),(132,s132)] 129 [.int .i64 3,.str ((c :: t).take (n + 1 + M))] = some (.int .i64 (decErr ((c :: t).take (n + 1 + M))),[]):=by
    rw [tb39]
    exact s39_dec hdec (by rw [List.length_take]; omega)
   rw [hp,show (((k + n + 1:Nat):Int) + (M:Int)).toNat = k + (n + 1 + M) by omega,htk]
   exact ⟨by omega,by omega,⟨by omega,by omega⟩,_,mapByte _,_,⟨tbd⟩,rfl,by dsimp only; omega,rfl⟩
  ·refine fin fun u hu=>?_
   have hu':u = bs.drop (k + n + 1):=by
    have h9:=congrArg (List.drop 1) hu
    rw [List.drop_drop,← hct,List.drop_drop,show k + (n + 1) = k + n + 1 by omega] at h9
    simpa using h9.symm
   rw [hu']; omega
  ·refine fin fun u hu=>?_
   exfalso
   apply h46
   have h9:((c :: t).drop n).getD 0 0 = 46:=by rw [hu]; rfl
   rw [hdrop,getD_drop',Nat.add_zero] at h9
   rw [h9]; rfl
  ·refine fin fun u hu=>?_
   exfalso
   have h9:=congrArg List.length hu
   rw [List.length_drop,List.length_cons,List.length_cons] at h9
   omega
 ·have hb:¬ blankB c = true:=fun h=>h1 (by have:=hcls.b1.2 h; omega)
  have h35:¬ (c == 35) = true:=fun h=>h6 (by have:=hcls.b6.2 h; omega)
  have hle':¬ letterB c = true:=fun h=>h2 (by have:=hcls.b2.2 h; omega)
  have hd:¬ digitB c = true:=fun h=>h3 (by have:=hcls.b3.2 h; omega)
  have hq:(c == 34) = true:=hcls.b5.1 (by omega)
  have hL:=tw_le (p:=lineB) t
  have tb:tbl [(128,s128),(129,s129),(130,s130),(131,s131),(132,s132)] 130 [.sl 1 (bytesL t) .no,.str [34,10]] = some (.int .i64 (if (t.takeWhile lineB).length < t.length then ((t.takeWhile lineB).length:Int) else -1),[]):=by
   rw [tb40]; exact s130_eq (by omega)
  have hun:(∀ u,t.drop (t.takeWhile lineB).length ≠ 34 :: u)→piece (c :: t) = (-1,1,80):=fun hno=>by
   simp only [piece]; rw [if_neg hb,if_neg h35,if_neg hle',if_neg hd,if_pos hq]
  refine ⟨by omega,⟨by omega,Nat.le_refl _⟩,_,⟨tb⟩,fun hneg=>?_,fun hnn=>?_⟩
  ·have hge:¬ (t.takeWhile lineB).length < t.length:=by
    intro h; rw [if_pos h] at hneg; omega
   rw [hun fun u hu=>by have:=congrArg List.length hu; rw [List.length_drop,List.length_cons] at this; omega]
   exact ⟨rfl,by dsimp only; omega,rfl⟩
  ·have hlt:(t.takeWhile lineB).length < t.length:=by
    rcases Nat.lt_or_ge (t.takeWhile lineB).length t.length with h | h
    ·exact h
    ·rw [if_neg (by omega)] at hnn; omega
   rw [if_pos hlt]
   have hst:=tw_at (p:=lineB) hlt
   have htd:t.drop (t.takeWhile lineB).length = t.getD (t.takeWhile lineB).length 0 :: t.drop ((t.takeWhile lineB).length + 1):=by
    rw [List.drop_eq_getElem_cons hlt]; simp [hlt]
   have htw:=take_tw (p:=lineB) t
   generalize hLL:(t.takeWhile lineB).length = L at *
   have hw3:IntKind.i64.wrap (((k + 1:Nat):Int) + L) = ((k + 1 + L:Nat):Int):=by rw [wrap64_in (by omega) (by omega)]; omega
   have hw4:IntKind.i64.wrap (IntKind.i64.wrap ((k:Int) + L) + 1) = ((k + 1 + L:Nat):Int):=by rw [wrap64_in (n:=(k:Int) + L) (by omega) (by omega),wrap64_in (by omega) (by omega)]; omega
   have hw5:IntKind.i64.wrap (IntKind.i64.wrap ((k:Int) + L) + 2) = ((k + 2 + L:Nat):Int):=by rw [wrap64_in (n:=(k:Int) + L) (by omega) (by omega),wrap64_in (by omega) (by omega)]; omega
   simp only [hw3,hw4,hw5,Int.toNat_natCast]
   have hbx:bs.getD (k + 1 + L) 0 = t.getD L 0:=by rw [← ht,getD_drop']
   rw [hbx]
   generalize hx:t.getD L 0 = x at *
   have hx2:x = 34∨x = 10:=by
    simp only [lineB,Bool.and_eq_false_iff,bne_eq_false_iff_eq] at hst
    exact hst
   refine ⟨⟨by omega,by omega⟩,(x.toNat:Int),⟨by omega,rfl⟩,fun h10=>?_,fun h10=>?_⟩
   ·have hx10:x = 10:=by rw [← UInt8.toNat_inj]; show x.toNat = 10; omega
    rw [hun fun u hu=>by rw [htd,hx10] at hu; simp at hu]
    exact ⟨rfl,by dsimp only; omega,rfl⟩
   ·have hx34:x = 34:=by
     rcases hx2 with h | h
     ·exact h
     ·rw [h] at h10; exact absurd rfl h10
    have hp:piece (c :: t) = (4,L + 2,txtErr (t.takeWhile lineB)):=by
     simp only [piece]; rw [if_neg hb,if_neg h35,if_neg hle',if_neg hd,if_pos hq,hLL,htd,hx34]
     rfl
    have e1:((bytesL bs).take (k + 1 + L)).drop (k + 1) = bytesL (t.takeWhile lineB):=by
     rw [drop_take_bytes,List.drop_take,ht,Nat.add_sub_cancel_left,htw]
    have tb4:tbl [(128,s128),(129,s129),(130,s130),(131,s131),(132,s132)] 131 [.sl 1 (bytesL (t.takeWhile lineB)) .no] = some (.int .i64 (txtErr (t.takeWhile lineB)),[]):=by
     rw [tb41]; exact s131_eq (by omega)
    rw [hp,e1]
    exact ⟨by omega,by omega,⟨by omega,by omega⟩,_,⟨tb4⟩,rfl,by dsimp only; omega,rfl⟩
 ·refine ⟨fun h7=>?_,fun h7=>⟨fun h8=>?_,fun h8=>?_⟩⟩
  ·have hs:signB c = true∨(c == 33) = true:=.inl (hcls.b7.1 (by omega))
   have hb:¬ blankB c = true:=fun h=>h1 (by have:=hcls.b1.2 h; omega)
   have h35:¬ (c == 35) = true:=fun h=>h6 (by have:=hcls.b6.2 h; omega)
   have hle':¬ letterB c = true:=fun h=>h2 (by have:=hcls.b2.2 h; omega)
   have hd:¬ digitB c = true:=fun h=>h3 (by have:=hcls.b3.2 h; omega)
   have hq:¬ (c == 34) = true:=fun h=>h5 (by have:=hcls.b5.2 h; omega)
   have hw2:IntKind.i64.wrap (((k + 1:Nat):Int) + 1) = ((k + 2:Nat):Int):=by rw [wrap64_in (by omega) (by omega)]; omega
   simp only [hw2]
   have last:¬ (eqSgB c && (t.head?.getD 0 == 61)) = true→(¬ (c.toNat:Int) = 33→5 = (piece (c :: t)).1∧((k + 1:Nat):Int) = k + (piece (c :: t)).2.1∧0 = (piece (c :: t)).2.2)∧((c.toNat:Int) = 33→-1 = (piece (c :: t)).1∧((k + 1:Nat):Int) = k + (piece (c :: t)).2.1∧80 = (piece (c :: t)).2.2):=fun hne=>by
    constructor
    ·intro h33
     have hsg:signB c = true:=by
      rcases hs with hs | hs
      ·exact hs
      ·exact absurd (by rw [show c = 33 by simpa using hs]; rfl) h33
     have hp:piece (c :: t) = (5,1,0):=by
      simp only [piece]; rw [if_neg hb,if_neg h35,if_neg hle',if_neg hd,if_neg hq,if_neg hne,if_pos hsg]
     rw [hp]
     exact ⟨rfl,by dsimp only; omega,rfl⟩
    ·intro h33
     have hc33:c = 33:=by rw [← UInt8.toNat_inj]; show c.toNat = 33; omega
     have hsg:¬ signB c = true:=by rw [hc33]; decide
     have hp:piece (c :: t) = (-1,1,80):=by
      simp only [piece]; rw [if_neg hb,if_neg h35,if_neg hle',if_neg hd,if_neg hq,if_neg hne,if_neg hsg]
     rw [hp]
     exact ⟨rfl,by dsimp only; omega,rfl⟩
   refine ⟨fun hlt=>⟨⟨by omega,by omega⟩,((bs.getD (k + 1) 0).toNat:Int),⟨by omega,rfl⟩,fun h61=>⟨⟨by omega,by omega⟩,(c.toNat:Int),⟨hk,rfl⟩,_,⟨rfl⟩,fun hge=>?_,fun hng=>⟨⟨by omega,by omega⟩,(c.toNat:Int),⟨hk,rfl⟩,?_⟩⟩,fun h61=>⟨⟨by omega,by omega⟩,(c.toNat:Int),⟨hk,rfl⟩,?_⟩⟩,fun hge=>⟨⟨by omega,by omega⟩,(c.toNat:Int),⟨hk,rfl⟩,?_⟩⟩
   ·have hh:t.head?.getD 0 = 61:=by
     have:(bs.getD (k + 1) 0) = 61:=by rw [← UInt8.toNat_inj]; show (bs.getD (k + 1) 0).toNat = 61; omega
     rw [← this,← ht,List.head?_drop,List.getD_eq_getElem?_getD]
    have heq:eqSgB c = true:=by
     rw [ib_ge,Int.toNat_natCast,UInt8.toUInt8_toNat'] at hge
     simp only [List.mem_cons,List.not_mem_nil,or_false] at hge
     simp only [eqSgB,Bool.or_eq_true,beq_iff_eq]
     rcases hge with h | h | h <;> simp [h]
    have hp:piece (c :: t) = (5,2,0):=by
     simp only [piece]; rw [if_neg hb,if_neg h35,if_neg hle',if_neg hd,if_neg hq,if_pos (by simp [heq,hh])]
    rw [hp]
    exact ⟨rfl,by dsimp only; omega,rfl⟩
   ·refine last fun h=>hng ?_
    simp only [Bool.and_eq_true] at h
    have heq:=h.1
    simp only [eqSgB,Bool.or_eq_true,beq_iff_eq] at heq
    rw [ib_ge,Int.toNat_natCast,UInt8.toUInt8_toNat']
    rcases heq with (h | h) | h <;> simp [h]
   ·refine last fun h=>h61 ?_
    simp only [Bool.and_eq_true,beq_iff_eq] at h
    have hh:=h.2
    rw [← ht,List.head?_drop,← List.getD_eq_getElem?_getD] at hh
    rw [hh]; rfl
   ·refine last fun h=>?_
    simp only [Bool.and_eq_true,beq_iff_eq] at h
    have hh:=h.2
    have:t = []:=List.length_eq_zero_iff.1 (by omega)
    rw [this] at hh
    simp at hh
  ·have hs:signB c = true∨(c == 33) = true:=.inr (hcls.b8.1 (by omega))
   have hb:¬ blankB c = true:=fun h=>h1 (by have:=hcls.b1.2 h; omega)
   have h35:¬ (c == 35) = true:=fun h=>h6 (by have:=hcls.b6.2 h; omega)
   have hle':¬ letterB c = true:=fun h=>h2 (by have:=hcls.b2.2 h; omega)
   have hd:¬ digitB c = true:=fun h=>h3 (by have:=hcls.b3.2 h; omega)
   have hq:¬ (c == 34) = true:=fun h=>h5 (by have:=hcls.b5.2 h; omega)
   have hw2:IntKind.i64.wrap (((k + 1:Nat):Int) + 1) = ((k + 2:Nat):Int):=by rw [wrap64_in (by omega) (by omega)]; omega
   simp only [hw2]
   have last:¬ (eqSgB c && (t.head?.getD 0 == 61)) = true→(¬ (c.toNat:Int) = 33→5 = (piece (c :: t)).1∧((k + 1:Nat):Int) = k + (piece (c :: t)).2.1∧0 = (piece (c :: t)).2.2)∧((c.toNat:Int) = 33→-1 = (piece (c :: t)).1∧((k + 1:Nat):Int) = k + (piece (c :: t)).2.1∧80 = (piece (c :: t)).2.2):=fun hne=>by
    constructor
    ·intro h33
     have hsg:signB c = true:=by
      rcases hs with hs | hs
      ·exact hs
      ·exact absurd (by rw [show c = 33 by simpa using hs]; rfl) h33
     have hp:piece (c :: t) = (5,1,0):=by
      simp only [piece]; rw [if_neg hb,if_neg h35,if_neg hle',if_neg hd,if_neg hq,if_neg hne,if_pos hsg]
     rw [hp]
     exact ⟨rfl,by dsimp only; omega,rfl⟩
    ·intro h33
     have hc33:c = 33:=by rw [← UInt8.toNat_inj]; show c.toNat = 33; omega
     have hsg:¬ signB c = true:=by rw [hc33]; decide
     have hp:piece (c :: t) = (-1,1,80):=by
      simp only [piece]; rw [if_neg hb,if_neg h35,if_neg hle',if_neg hd,if_neg hq,if_neg hne,if_neg hsg]
     rw [hp]
     exact ⟨rfl,by dsimp only; omega,rfl⟩
   refine ⟨fun hlt=>⟨⟨by omega,by omega⟩,((bs.getD (k + 1) 0).toNat:Int),⟨by omega,rfl⟩,fun h61=>⟨⟨by omega,by omega⟩,(c.toNat:Int),⟨hk,rfl⟩,_,⟨rfl⟩,fun hge=>?_,fun hng=>⟨⟨by omega,by omega⟩,(c.toNat:Int),⟨hk,rfl⟩,?_⟩⟩,fun h61=>⟨⟨by omega,by omega⟩,(c.toNat:Int),⟨hk,rfl⟩,?_⟩⟩,fun hge=>⟨⟨by omega,by omega⟩,(c.toNat:Int),⟨hk,rfl⟩,?_⟩⟩
   ·have hh:t.head?.getD 0 = 61:=by
     have:(bs.getD (k + 1) 0) = 61:=by rw [← UInt8.toNat_inj]; show (bs.getD (k + 1) 0).toNat = 61; omega
     rw [← this,← ht,List.head?_drop,List.getD_eq_getElem?_getD]
    have heq:eqSgB c = true:=by
     rw [ib_ge,Int.toNat_natCast,UInt8.toUInt8_toNat'] at hge
     simp only [List.mem_cons,List.not_mem_nil,or_false] at hge
     simp only [eqSgB,Bool.or_eq_true,beq_iff_eq]
     rcases hge with h | h | h <;> simp [h]
    have hp:piece (c :: t) = (5,2,0):=by
     simp only [piece]; rw [if_neg hb,if_neg h35,if_neg hle',if_neg hd,if_neg hq,if_pos (by simp [heq,hh])]
    rw [hp]
    exact ⟨rfl,by dsimp only; omega,rfl⟩
   ·refine last fun h=>hng ?_
    simp only [Bool.and_eq_true] at h
    have heq:=h.1
    simp only [eqSgB,Bool.or_eq_true,beq_iff_eq] at heq
    rw [ib_ge,Int.toNat_natCast,UInt8.toUInt8_toNat']
    rcases heq with (h | h) | h <;> simp [h]
   ·refine last fun h=>h61 ?_
    simp only [Bool.and_eq_true,beq_iff_eq] at h
    have hh:=h.2
    rw [← ht,List.head?_drop,← List.getD_eq_getElem?_getD] at hh
    rw [hh]; rfl
   ·refine last fun h=>?_
    simp only [Bool.and_eq_true,beq_iff_eq] at h
    have hh:=h.2
    have:t = []:=List.length_eq_zero_iff.1 (by omega)
    rw [this] at hh
    simp at hh
  ·have hb:¬ blankB c = true:=fun h=>h1 (by have:=hcls.b1.2 h; omega)
   have h35:¬ (c == 35) = true:=fun h=>h6 (by have:=hcls.b6.2 h; omega)
   have hle':¬ letterB c = true:=fun h=>h2 (by have:=hcls.b2.2 h; omega)
   have hd:¬ digitB c = true:=fun h=>h3 (by have:=hcls.b3.2 h; omega)
   have hq:¬ (c == 34) = true:=fun h=>h5 (by have:=hcls.b5.2 h; omega)
   have hsg:¬ signB c = true:=fun h=>h7 (by have:=hcls.b7.2 h; omega)
   have h33:¬ (c == 33) = true:=fun h=>h8 (by have:=hcls.b8.2 h; omega)
   have hne:¬ (eqSgB c && (t.head?.getD 0 == 61)) = true:=by
    intro h
    simp only [Bool.and_eq_true,eqSgB,Bool.or_eq_true,beq_iff_eq] at h
    rcases h.1 with (h | h) | h
    ·exact hsg (by rw [h]; decide)
    ·exact h33 (by rw [h]; rfl)
    ·exact hsg (by rw [h]; decide)
   have hp:piece (c :: t) = (-1,1,80):=by
    simp only [piece]; rw [if_neg hb,if_neg h35,if_neg hle',if_neg hd,if_neg hq,if_neg hne,if_neg hsg]
   rw [hp]
   exact ⟨rfl,by dsimp only; omega,rfl⟩
end Go.Abs.Lx
namespace Go.Abs.Lx
open Go.Proofs L8
theorem w129 (m k:Int) (l:List UInt8):(pureW PQ (GQ m) XL (tbl [(162,s162'),(89,s89')]) (itbl []) nAn [] 129 [.int .i64 k,.str l] (.int .i64 (if k = 3 then decErr l else intErr l),[])) =
(((k == (3:Int)) = true →
    ∃ (n:Int),
      ∃ (n_1:Int),
        CallIs (tbl [((162:Nat),s162'),((89:Nat),s89')] ((162:Nat)) [AV.str l]) (AV.tup [AV.int IntKind.i64 n,AV.int IntKind.i64 n_1]) [] ∧
 RetIs (AV.int IntKind.i64 n_1) [] (AV.int IntKind.i64 (if k = (3:Int) then decErr l else intErr l),[])) ∧
  ((k == (3 : Int)) = false →
    ∃ (n:Int),
      CallIs (tbl [((162:Nat),s162'),((89:Nat),s89')] ((89:Nat)) [AV.str l]) (AV.tup [AV.int IntKind.i64 n,AV.ifc]) [] ∧
 (true = true→RetIs (AV.int IntKind.i64 (2:Int)) [] (AV.int IntKind.i64 (if k = (3:Int) then decErr l else intErr l),[])) ∧
 (true = false →
 (decide (n > (1152921504606846976:Int)) = true →
 RetIs (AV.int IntKind.i64 (2:Int)) [] (AV.int IntKind.i64 (if k = (3:Int) then decErr l else intErr l),[])) ∧
 (decide (n > (1152921504606846976:Int)) = false →
 RetIs (AV.int IntKind.i64 (0 : Int)) [] (AV.int IntKind.i64 (if k = (3 : Int) then decErr l else intErr l), []))) ∨
        CallIs (tbl [((162:Nat),s162'),((89:Nat),s89')] ((89:Nat)) [AV.str l]) (AV.tup [AV.int IntKind.i64 n,AV.lit Value.nilIface]) [] ∧
 (false = true→RetIs (AV.int IntKind.i64 (2:Int)) [] (AV.int IntKind.i64 (if k = (3:Int) then decErr l else intErr l),[])) ∧
 (false = false →
 (decide (n > (1152921504606846976:Int)) = true →
 RetIs (AV.int IntKind.i64 (2:Int)) [] (AV.int IntKind.i64 (if k = (3:Int) then decErr l else intErr l),[])) ∧
 (decide (n > (1152921504606846976:Int)) = false →
 RetIs (AV.int IntKind.i64 (0:Int)) [] (AV.int IntKind.i64 (if k = (3:Int) then decErr l else intErr l),[]))))):=by kernel_rfl
end Go.Abs.Lx
namespace Go.Abs.Lx
open Go.Proofs L8
theorem intErr_le (l:List UInt8):intErr l = if valX l≤1152921504606846976 then 0 else 2:=by
 simp only [intErr]
 by_cases h:valX l≤1152921504606846976
 ·rw [if_neg (by omega),if_pos h]
 ·rw [if_pos (by omega),if_neg h]
theorem p129d (m:Int) (l:List UInt8) (h:decB l = true) (hl:l.length≤1000000):PureOk PQ (GQ m) XL (tbl [(162,s162'),(89,s89')]) (itbl []) nAn [] 129 [.int .i64 3,.str l] (.int .i64 (decErr l),[]):=by
 constructor
 have hw:=w129 m 3 l
 rw [if_pos rfl] at hw
 rw [hw]
 have t51:tbl [(162,s162'),(89,s89')] 162 [.str l] = some (.tup [.int .i64 (if decErr l = 0 then decVal l else 0),.int .i64 (decErr l)],[]):=by
  rw [tbl_hit]; simp only [s162']; rw [if_pos ⟨hl,h⟩]
 exact ⟨fun _=>⟨_,_,⟨t51⟩,⟨rfl⟩⟩,fun h=>absurd h (by decide)⟩
theorem p129i (m:Int) (l:List UInt8) (h:intB l = true) (hl:l.length≤1000000):PureOk PQ (GQ m) XL (tbl [(162,s162'),(89,s89')]) (itbl []) nAn [] 129 [.int .i64 2,.str l] (.int .i64 (intErr l),[]):=by
 constructor
 have hw:=w129 m 2 l
 rw [if_neg (by decide)] at hw
 rw [hw]
 have t52:tbl [(162,s162'),(89,s89')] 89 [.str l] = if valX l≤9223372036854775807 then some (.tup [.int .i64 (valX l),.lit .nilIface],[]) else some (.tup [.int .i64 9223372036854775807,.ifc],[]):=by
  rw [tbl_miss (fun h=>absurd h (by decide)),tbl_hit]; simp only [s89']; rw [if_pos ⟨hl,h⟩]
  split <;> rfl
 refine ⟨fun h=>absurd h (by decide),fun _=>?_⟩
 rw [t52,intErr_le]
 by_cases h63:valX l≤9223372036854775807
 ·rw [if_pos h63]
  refine ⟨(valX l:Int),.inr ⟨⟨rfl⟩,fun h=>absurd h (by decide),fun _=>⟨fun h=>?_,fun h=>?_⟩⟩⟩
  ·have:=of_decide_eq_true h
   rw [if_neg (by omega)]; exact ⟨rfl⟩
  ·have:=of_decide_eq_false h
   rw [if_pos (by omega)]; exact ⟨rfl⟩
 ·rw [if_neg h63]
  refine ⟨9223372036854775807,.inl ⟨⟨rfl⟩,fun _=>?_,fun h=>absurd h (by decide)⟩⟩
  rw [if_neg (by omega)]; exact ⟨rfl⟩
theorem o85 (m:Int):ISpecOk PQ (GQ m) 85 s85:=ispec_of (X:=XL) (m:=[]) mixedQ tbl_nil itbl_nil fun args S p r h hp=>by
 unfold s85 at h
 split at h
 ·simp only [Option.some.injEq,Prod.mk.injEq] at h
  obtain ⟨h1,h2⟩:=h
  subst h1
  obtain ⟨k1,k2,k3⟩:=hp
  subst k2
  rw [← h2]
  exact ⟨nAn,p85 m _ _ _ _ _ k1 k3⟩
 ·cases h
theorem o128 (m:Int):SpecOk PQ (GQ m) 128 s128:=spec_of (X:=XL) (m:=[]) mixedQ (lib8_ok m) itbl_nil fun args r h=>by
 have key:∀ sz es c (o:Own),(o = .no∨o = .full)→(if sz = 1∧es ≠ [] then onBytes es fun bs=>some (AV.int .i64 (Lib.indexByte bs (c:Int).toNat.toUInt8),([]:List (Nat × TypeId))) else none) = some r→∃ A,PureOk PQ (GQ m) XL (tbl lib8) (itbl []) A [] 128 [.sl sz es o,.int .u8 c] r:=fun sz es c o ho h=>by
  split at h
  ·rename_i hc
   obtain ⟨rfl,hne⟩:=hc
   unfold onBytes at h
   split at h
   ·rename_i bs hb
    obtain rfl:=unBytes_some hb
    injection h with h
    subst h
    have hbs:bs ≠ []:=by rintro rfl; exact hne rfl
    rcases ho with rfl | rfl
    ·exact ⟨nAn,p128 m c bs hbs⟩
    ·exact ⟨nAn,p128f m c bs hbs⟩
   ·cases h
  ·cases h
 unfold s128 at h
 split at h
 ·exact key _ _ _ _ (.inl rfl) h
 ·exact key _ _ _ _ (.inr rfl) h
 ·cases h
theorem o170 (m:Int):SpecOk PQ (GQ m) 170 sIndexByteString:=spec_of (X:=XL) (m:=[]) mixedQ (lib8_ok m) itbl_nil fun args r h=>by
 unfold sIndexByteString at h
 split at h
 ·injection h with h; subst h; exact ⟨nAn,p170 m _ _⟩
 ·cases h
theorem o132 (m:Int):SpecOk PQ (GQ m) 132 s132:=spec_of (X:=XL) (m:=[]) mixedQ (tbl_cons (o170 m) tbl_nil) itbl_nil fun args r h=>by
 unfold s132 sIndexByteString at h
 split at h
 ·injection h with h; subst h; exact ⟨nAn,p132 m _ _⟩
 ·cases h
theorem o131 (m:Int):SpecOk PQ (GQ m) 131 s131:=spec_of (X:=XL) (m:=[]) mixedQ tbl_nil itbl_nil fun args r h=>by
 unfold s131 at h
 split at h
 ·split at h
  ·rename_i hsz
   subst hsz
   unfold onBytes at h
   split at h
   ·rename_i bs hb
    obtain rfl:=unBytes_some hb
    simp only at h
    split at h
    ·rename_i hl
     injection h with h; subst h; exact ⟨a131 bs,p131 m bs 1 rfl hl⟩
    ·cases h
   ·cases h
  ·cases h
 ·cases h
theorem o129 (m:Int) (h51:SpecOk PQ (GQ m) 162 s162') (h52:SpecOk PQ (GQ m) 89 s89'):SpecOk PQ (GQ m) 129 s129:=spec_of (X:=XL) (m:=[]) mixedQ (tbl_cons h51 (tbl_cons h52 tbl_nil)) itbl_nil fun args r h=>by
 unfold s129 at h
 split at h
 ·split at h
  ·rename_i hl
   split at h
   ·rename_i hd
    obtain ⟨rfl,hd⟩:=hd
    injection h with h; subst h; exact ⟨nAn,p129d m _ hd hl⟩
   ·split at h
    ·rename_i hd
     obtain ⟨rfl,hd⟩:=hd
     injection h with h; subst h; exact ⟨nAn,p129i m _ hd hl⟩
    ·cases h
  ·cases h
 ·cases h
theorem o127 (m:Int):ISpecOk PQ (GQ m) 127 s127:=ispec_of (X:=XL) (m:=[]) mixedQ (tbl_cons (o128 m) tbl_nil) itbl_nil fun args S p r h hp=>by
 unfold s127 at h
 split at h
 ·simp only [Option.some.injEq,Prod.mk.injEq] at h
  obtain ⟨h1,h2⟩:=h
  subst h1
  obtain ⟨rfl,⟨k1,k2⟩,⟨bs,rfl,k3,k4,k5⟩,qs,rfl,k6⟩:=hp
  rw [← h2,bytesD_mk]
  exact ⟨_,p127 m _ qs bs _ _ _ _ k1 k2 k4 k5 k3 k6⟩
 ·cases h
theorem o86 (m:Int) (h39:SpecOk PQ (GQ m) 129 s129) (h40:SpecOk PQ (GQ m) 130 s130):ISpecOk PQ (GQ m) 86 s86:=ispec_of (X:=XL) (m:=[]) mixedQ (tbl_cons (o128 m) (tbl_cons h39 (tbl_cons h40 (tbl_cons (o131 m) (tbl_cons (o132 m) tbl_nil))))) (itbl_cons (o127 m) itbl_nil) fun args S p r h hp=>by
 unfold s86 at h
 split at h
 ·rename_i es n b0 cs b2 p1 q1
  simp only [Option.some.injEq,Prod.mk.injEq] at h
  obtain ⟨h1,h2⟩:=h
  subst h1
  obtain ⟨rfl,⟨k1,k2⟩,bs,rfl,k3,k4,k5⟩:=hp
  rw [← h2,bytesD_mk]
  obtain ⟨k,rfl⟩:∃ k:Nat,n = k:=⟨n.toNat,by omega⟩
  exact ⟨_,p86 m k bs _ _ _ _ k1 k2 (by omega) k3⟩
 ·cases h
def s36:Spec:=fun args=>match args with
 | [.sl sz es .no]=>if sz = 1 then onBytes es fun bs=>some (r12 bs) else none
 | _=>none
theorem o84k (m:Int):SpecOk PQ (GQ m) 84 s84k:=spec_run mixedQ (lib8_ok m) fun args r h=>by
 unfold s84k at h
 split at h
 ·injection h with h; subst h; exact ⟨60,run84 m⟩
 ·cases h
theorem o36 (m:Int) (h39:SpecOk PQ (GQ m) 129 s129) (h40:SpecOk PQ (GQ m) 130 s130):SpecOk PQ (GQ m) 36 s36:=lax_of (X:=XL) (m:=[]) mixedQ (tbl_cons (o84k m) tbl_nil) (itbl_cons (o85 m) (itbl_cons (o86 m h39 h40) itbl_nil)) fun args r h=>by
 unfold s36 at h
 split at h
 ·split at h
  ·rename_i hsz
   subst hsz
   unfold onBytes at h
   split at h
   ·rename_i bs hb
    obtain rfl:=unBytes_some hb
    injection h with h; subst h; exact ⟨a36 bs,p36 m bs⟩
   ·cases h
  ·cases h
 ·cases h
end Go.Abs.Lx
namespace Go.Abs.Lx
open Go.Proofs L8 Go.RowKit
section
variable {P : Program} {G : Glob} {E : Env} {w w' : World}
theorem glob_ifc {g:Nat} (hG:GlobOk G E w) (h:G g = some .ifc):∃ t x,w.cell? ⟨g,0,none⟩ = some (.iface t x):=by
 have:=(hG g _ h).2.1
 generalize hv:Value.pointer (some ⟨g,0,none⟩) = v at this
 cases this with | elt _ _ _ _ b off u hcl hA hr h1 =>
 injection hv with hv
 injection hv with hv
 injection hv with h2 h3
 subst h2
 obtain ⟨_,h4⟩:=hA 0 _ 0 _ rfl rfl
 obtain ⟨t,x,h5⟩:=rep_ifc (hr 0 _ 0 _ rfl rfl)
 refine ⟨t,x,?_⟩
 rw [← h5,← h4]
 congr 2
theorem rep_tup2 {a b:AV} {u v:Value} (h1:Rep E w a u) (h2:Rep E w b v):Rep E w (.tup [a,b]) (.tuple #[u,v]):=by
 refine .tup _ _ rfl fun i c x hc hx=>?_
 match i,hc,hx with
 | 0,hc,hx=>simp at hc hx; subst hc; subst hx; exact h1
 | 1,hc,hx=>simp at hc hx; subst hc; subst hx; exact h2
 | i + 2,hc,hx=>simp at hc
theorem vs_one' {vs:Array Value} (h:vs.size = 1):∃ a,vs = #[a]:=vs_one h
end
theorem o89 (m:Int):SpecOk PQ (GQ m) 89 s89':=by
 intro g args r lv h E w vs hI hG hn' hv hcl
 simp only at h
 split at h
 case isFalse=>cases h
 case isTrue e =>
 subst e
 unfold s89' at h
 split at h
 case h_2=>cases h
 case h_1 l =>
 split at h
 case isFalse=>cases h
 case isTrue hl =>
 obtain ⟨hl,hi⟩:=hl
 obtain ⟨a,rfl⟩:=vs_one' hn'
 obtain ⟨s,rfl,hs⟩:=rep_str (hv 0 _ _ rfl rfl)
 have hsz:s.size = l.length:=by rw [size_data,hs]
 have ha:=atoi_digits hi
 by_cases h63:valX l≤9223372036854775807
 ·rw [if_pos h63] at h ha
  simp only [Option.some.injEq,Prod.mk.injEq] at h
  obtain ⟨rfl,rfl⟩:=h
  refine .inl ⟨goodQ (by kernel_rfl),(Tryz.strconv_Atoi_ok s (by omega) (valX l) (by rw [hs]; exact ha) w).mono fun e w' ⟨he,hw⟩=>⟨_,he,?_⟩⟩
  have hb:Below w.heap.size w w':=by
   rcases hw with rfl | ⟨t,rfl⟩
   ·exact Below.refl _ _
   ·exact Lib.bytesWorld_below _ _ _
  exact res_below hb fun B K=>rep_tup2 (.int _ _) (.lit _ rfl)
 ·rw [if_neg h63] at h ha
  simp only [Option.some.injEq,Prod.mk.injEq] at h
  obtain ⟨rfl,rfl⟩:=h
  obtain ⟨t,x,hx⟩:=glob_ifc (g:=3) hG rfl
  refine .inl ⟨goodQ (by kernel_rfl),(Tryz.strconv_Atoi_range s (by omega) (by rw [hs]; exact ha) _ w hx (.inr ⟨t,x,rfl⟩)).mono fun e w' ⟨N,he,_,_,hb⟩=>⟨_,he,?_⟩⟩
  have hsat:Lib.atoiSat s.data.toList = 9223372036854775807:=by
   rw [hs,Lib.atoiSat,if_neg]
   cases l with
   | nil=>simp
   | cons c t =>
    simp only [intB,Bool.and_eq_true,List.all_cons,digitB_iff] at hi
    simp
    omega
  rw [hsat]
  exact res_below hb fun B K=>rep_tup2 (.int _ _) (.ifc _ _)
end Go.Abs.Lx
namespace Go.Abs.Lx
open Go.Proofs L8
theorem dfold_succ {r:List UInt8} {i:Nat} (h:i < r.length):dfold (r.take (i + 1)) = dstep (dfold (r.take i)) r[i]:=by
 unfold dfold
 rw [List.take_succ_eq_append_getElem h,List.foldl_append]
 rfl
theorem dfold_fail {r:List UInt8} {i:Nat} (h:i < r.length) (hn:dstep (dfold (r.take i)) r[i] = none):dfold r = none:=by
 have e:r = r.take (i + 1) ++ r.drop (i + 1):=(List.take_append_drop _ _).symm
 have:=dfold_succ h
 rw [hn] at this
 conv=>lhs; rw [e]
 unfold dfold at this ⊢
 rw [List.foldl_append,this,dfold_none]
theorem valL_snoc (l:List UInt8) (c:UInt8):valX (l ++ [c]) = 10 * valX l + (c.toNat - 48):=by simp [valX]
theorem tens_at {j:Nat} (h:j≤6):takeAt PQ 3 [tensA] 0 j = some (.int .i64 ((10 ^ j:Nat):Int)):=by
 have ha:aggA PQ 3 = some false:=by kernel_rfl
 have hs:∃ s,sizeA PQ 3 = some s:=⟨1,by kernel_rfl⟩
 obtain ⟨s,hs⟩:=hs
 match j,h with
 | 0,_ | 1,_ | 2,_ | 3,_ | 4,_ | 5,_ | 6,_=>simp only [takeAt,List.getElem?_cons_zero,ha,hs,takeA,tensA,AV.cells]; rfl
theorem tdiv10 {x d:Int} (_hx:0≤x) (hd:0≤d) (hd9:d≤9):(IntKind.i64.wrap ((IntKind.i64.wrap (1152921504606846976 - IntKind.i64.wrap d)).tdiv 10) < x) ↔ 1152921504606846976 < 10 * x + d:=by
 rw [wrap64_in (n:=d) (by omega) (by omega),wrap64_in (n:=1152921504606846976 - d) (by omega) (by omega),Int.tdiv_eq_ediv_of_nonneg (by omega),wrap64_in (by omega) (by omega)]
 omega
theorem tdivp {x:Int} {p:Nat} (_hx:0≤x) (hp:0 < p) (hp6:p≤1000000):(IntKind.i64.wrap (Int.tdiv 1152921504606846976 p) < x) ↔ 1152921504606846976 < x * p:=by
 rw [Int.tdiv_eq_ediv_of_nonneg (by omega)]
 have h1:(1152921504606846976:Int) / p≤1152921504606846976:=Int.ediv_le_self _ (by omega)
 have h2:(0:Int)≤1152921504606846976 / p:=Int.ediv_nonneg (by omega) (by omega)
 rw [wrap64_in (by omega) (by omega),Int.ediv_lt_iff_lt_mul (by omega)]
theorem wrap8_in {n:Int} (h0:0≤n) (h1:n < 256):IntKind.u8.wrap n = n:=by
 simp only [IntKind.wrap,IntKind.bits,IntKind.signed]
 simp
 omega
theorem p162 (m:Int) (s:List UInt8) (hl:s.length≤1000000):PureOk PQ (GQ m) XL (tbl []) (itbl []) (a162 s) [] 162 [.str s] (.tup [.int .i64 (decP s).1,.int .i64 (decP s).2],[]):=by
 constructor
 rw [w162]; unfold w162c21 w162c11 w162c10 w162c9 w162c14 w162c4 w162c3 w162c19 w162c15 w162c8 w162c12 w162c13 w162c20 w162c18 w162c6 w162c1 w162c7 w162c16 w162c17 w162c2 w162c5 I6
 have hdec:decP s = decR (negB s) (restB s):=rfl
 have hrl:(restB s).length≤1000000:=by
  unfold restB; split
  ·rw [List.length_drop]; omega
  ·exact hl
 have fail:dfold (restB s) = none→decP s = (0,3):=fun h=>by rw [hdec,decR,h]
 simp only [valsAre_iff,stIs_iff,retIs_iff,decide_eq_true_eq,decide_eq_false_iff_not,gt_iff_lt,ge_iff_le,List.cons.injEq,AV.int.injEq,AV.tup.injEq,AV.str.injEq,AV.bool.injEq,Prod.mk.injEq,and_true,true_and,beq_iff_eq,beq_eq_false_iff_ne,ne_eq,Bool.not_eq_true',Bool.not_eq_false',Int.toNat_natCast,Nat.zero_add,Nat.mul_one,true_implies]
 have hptv:∀ (x:X162),Inv162 (restB s) x→(ptv x.i x.k < 0 ↔ x.k = none):=fun x hx=>by
  cases hk:x.k with
  | none=>simp [ptv]
  | some j =>
   have:=(hx.k j hk).1
   simp only [ptv,reduceCtorEq,iff_false]
   omega
 have hstep:∀ (i:Nat) (k:Option Nat),ptv i k = ptv (i + 1) (k.map (· + 1)):=fun i k=>by
  cases k with
  | none=>rfl
  | some j=>simp only [ptv,Option.map_some]; omega
 refine ⟨⟨fun hne=>⟨by omega,?_⟩,fun he=>⟨(),?_,?_⟩⟩,fun _=>⟨⟨⟨⟨0,[],none,0,false⟩,⟨rfl,rfl,rfl,rfl⟩,?_⟩,fun x hx=>?_⟩,fun x hx=>?_⟩⟩
 ·cases s with
  | nil=>exact absurd rfl hne
  | cons c t =>
   refine ⟨c,rfl,fun h=>⟨by omega,⟨by simp,Nat.le_refl _⟩,(),?_,?_⟩,fun h=>⟨(),?_,?_⟩⟩
   ·have hc:c = 45:=by rw [← UInt8.toNat_inj]; show c.toNat = 45; omega
    simp [restB,negB,hc]
   ·have hc:c = 45:=by rw [← UInt8.toNat_inj]; show c.toNat = 45; omega
    simp [negB,hc]
   ·have hc:c ≠ 45:=by rintro rfl; exact h rfl
    simp [restB,negB,hc]
   ·have hc:c ≠ 45:=by rintro rfl; exact h rfl
    simp [negB,hc]
 ·subst he; rfl
 ·subst he; rfl
 ·exact ⟨by simp,rfl,fun j h=>by simp at h,fun _=>rfl,fun _=>⟨rfl,by simp [valX]⟩,fun h=>by simp at h,by simp⟩
 ·have hpt:=hptv x hx
  obtain ⟨hi,hf,hk,hk0,hsm,hgr,hx0⟩:=hx
  have hend:¬ (x.i:Int) < (restB s).length→End162 (restB s) x:=fun h=>⟨⟨hi,hf,hk,hk0,hsm,hgr,hx0⟩,by omega⟩
  have core:∀ (hlt:x.i < (restB s).length) (c:UInt8),(restB s)[x.i] = c →
    (dstep (some (x.ds,x.k)) c = none→0 = (decP s).1∧3 = (decP s).2) ∧
    (∀ y:X162,y.i = x.i + 1→dstep (some (x.ds,x.k)) c = some (y.ds,y.k)→(∀ j,y.k = some j→j + 1≤y.i∧y.ds ≠ [])→(y.k = none→y.ds.length = y.i)→(y.big = false→y.x = valX y.ds∧valX y.ds≤1152921504606846976)→(y.big = true→1152921504606846976 < valX y.ds)→(0≤y.x∧y.x≤1152921504606846976)→Inv162 (restB s) y):=fun hlt c hc=>by
   constructor
   ·intro hn
    have:=fail (dfold_fail hlt (by rw [hf,hc]; exact hn))
    rw [this]; exact ⟨rfl,rfl⟩
   ·intro y hy hd h1 h2 h3 h4 h5
    exact ⟨by omega,by rw [hy,dfold_succ hlt,hf,hc]; exact hd,h1,h2,h3,h4,h5⟩
  have nodig:∀ c:UInt8,¬ (48≤c.toNat∧c.toNat≤57)→¬ (c = 46∧x.k = none∧x.ds ≠ [])→dstep (some (x.ds,x.k)) c = none:=fun c h1 h2=>by
   simp only [dstep]; rw [if_neg h2,if_neg (by rw [digitB_iff]; exact h1)]
  have dig:∀ c:UInt8,(48≤c.toNat∧c.toNat≤57)→dstep (some (x.ds,x.k)) c = some (x.ds ++ [c],x.k.map (· + 1)):=fun c h1=>by
   have:c ≠ 46:=by rintro rfl; simp at h1
   simp only [dstep]; rw [if_neg (fun h=>this h.1),if_pos (by rw [digitB_iff]; exact h1)]
  have kdig:∀ c:UInt8,(∀ j,x.k.map (· + 1) = some j→j + 1≤x.i + 1∧x.ds ++ [c] ≠ [])∧(x.k.map (· + 1) = none→(x.ds ++ [c]).length = x.i + 1):=fun c=>by
   constructor
   ·intro j hj
    cases hkk:x.k with
    | none=>rw [hkk] at hj; simp at hj
    | some a=>rw [hkk] at hj; simp at hj; have:=(hk a hkk).1; exact ⟨by omega,by simp⟩
   ·intro hj
    have:x.k = none:=by simpa using hj
    rw [List.length_append,hk0 this]; rfl
  have pt:∀ (hlt:x.i < (restB s).length) (c:UInt8),(restB s)[x.i] = c→(c.toNat:Int) = 46→ptv x.i x.k < 0→0 < (x.i:Int)→∃ y:X162,(x.x = y.x∧(x.i:Int) = ptv y.i y.k∧x.big = y.big∧IntKind.i64.wrap ((x.i:Int) + 1) = y.i)∧Inv162 (restB s) y∧(restB s).length - y.i < (restB s).length - x.i:=fun hlt c hc h46 hp h0=>by
   have hc46:c = 46:=by rw [← UInt8.toNat_inj]; show c.toNat = 46; omega
   have hkn:=hpt.1 hp
   have hdn:x.ds ≠ []:=by intro e; have:=hk0 hkn; rw [e] at this; simp at this; omega
   refine ⟨⟨x.i + 1,x.ds,some 0,x.x,x.big⟩,⟨rfl,by simp only [ptv]; omega,rfl,by rw [wrap64_in (by omega) (by omega)]; simp⟩,?_,by simp only; omega⟩
   refine (core hlt c hc).2 _ rfl ?_ ?_ ?_ hsm hgr hx0
   ·simp only [dstep]; rw [if_pos ⟨hc46,hkn,hdn⟩]
   ·intro j hj; simp at hj; subst hj; exact ⟨by simp,hdn⟩
   ·intro hj; simp at hj
  have bad:∀ (hlt:x.i < (restB s).length) (c:UInt8),(restB s)[x.i] = c→¬ ((c.toNat:Int) = 46∧ptv x.i x.k < 0∧0 < (x.i:Int))→((c.toNat:Int) < 48∨57 < (c.toNat:Int))→0 = (decP s).1∧3 = (decP s).2:=fun hlt c hc h1 h2=>by
   refine (core hlt c hc).1 (nodig c (by omega) ?_)
   rintro ⟨rfl,hkn,hdn⟩
   refine h1 ⟨rfl,hpt.2 hkn,?_⟩
   have:=hk0 hkn
   have:=List.length_pos_iff.2 hdn
   omega
  have dbig:∀ (hlt:x.i < (restB s).length) (c:UInt8),(restB s)[x.i] = c→¬ (c.toNat:Int) < 48→¬ 57 < (c.toNat:Int)→1152921504606846976 < valX (x.ds ++ [c])→∃ y:X162,(x.x = y.x∧ptv x.i x.k = ptv y.i y.k∧true = y.big∧IntKind.i64.wrap ((x.i:Int) + 1) = y.i)∧Inv162 (restB s) y∧(restB s).length - y.i < (restB s).length - x.i:=fun hlt c hc h1 h2 hv=>by
   refine ⟨⟨x.i + 1,x.ds ++ [c],x.k.map (· + 1),x.x,true⟩,⟨rfl,hstep _ _,rfl,by rw [wrap64_in (by omega) (by omega)]; simp⟩,?_,by simp only; omega⟩
   exact (core hlt c hc).2 _ rfl (dig c (by omega)) (kdig c).1 (kdig c).2 (fun h=>by simp at h) (fun _=>hv) hx0
  refine ⟨fun hb=>⟨fun hlt=>?_,fun hge=>⟨x,⟨rfl,rfl,hb.symm⟩,hend hge⟩⟩,fun hb=>⟨fun hlt=>?_,fun hge=>⟨x,⟨rfl,rfl,hb.symm⟩,hend hge⟩⟩⟩
  ·have hlt':x.i < (restB s).length:=by omega
   have hg:=hgr hb
   have pt':=pt hlt' _ rfl
   rw [hb] at pt'
   have hv:1152921504606846976 < valX (x.ds ++ [(restB s)[x.i]]):=by rw [valL_snoc]; omega
   have bad':=bad hlt' _ rfl
   have db:=fun h1 h2=>dbig hlt' _ rfl h1 h2 hv
   refine ⟨by omega,(restB s)[x.i],List.getElem?_eq_getElem hlt',?_⟩
   generalize (restB s)[x.i] = c at *
   exact ⟨fun h46=>⟨fun hp=>⟨fun h0=>pt' h46 hp h0,fun h0=>⟨fun h=>bad' (fun h'=>h0 h'.2.2) (.inl h),fun h=>⟨fun h'=>bad' (fun h''=>h0 h''.2.2) (.inr h'),fun h'=>db h h'⟩⟩⟩,fun hp=>⟨fun h=>bad' (fun h'=>hp h'.2.1) (.inl h),fun h=>⟨fun h'=>bad' (fun h''=>hp h''.2.1) (.inr h'),fun h'=>db h h'⟩⟩⟩,fun h46=>⟨fun h=>bad' (fun h'=>h46 h'.1) (.inl h),fun h=>⟨fun h'=>bad' (fun h''=>h46 h''.1) (.inr h'),fun h'=>db h h'⟩⟩⟩
  ·have hlt':x.i < (restB s).length:=by omega
   obtain ⟨hxv,hvm⟩:=hsm hb
   have pt':=pt hlt' _ rfl
   rw [hb] at pt'
   have bad':=bad hlt' _ rfl
   have db:=dbig hlt' (restB s)[x.i] rfl
   have core':=(core hlt' (restB s)[x.i] rfl).2
   refine ⟨by omega,(restB s)[x.i],List.getElem?_eq_getElem hlt',?_⟩
   generalize (restB s)[x.i] = c at *
   have dg:¬ (c.toNat:Int) < 48→¬ 57 < (c.toNat:Int)→¬ (10:Int) = 0∧(IntKind.i64.wrap ((IntKind.i64.wrap (1152921504606846976 - IntKind.i64.wrap (IntKind.u8.wrap ((c.toNat:Int) - 48)))).tdiv 10) < x.x→∃ y:X162,(x.x = y.x∧ptv x.i x.k = ptv y.i y.k∧true = y.big∧IntKind.i64.wrap ((x.i:Int) + 1) = y.i)∧Inv162 (restB s) y∧(restB s).length - y.i < (restB s).length - x.i) ∧
     (¬ IntKind.i64.wrap ((IntKind.i64.wrap (1152921504606846976 - IntKind.i64.wrap (IntKind.u8.wrap ((c.toNat:Int) - 48)))).tdiv 10) < x.x→∃ y:X162,(IntKind.i64.wrap (IntKind.i64.wrap (10 * x.x) + IntKind.i64.wrap (IntKind.u8.wrap ((c.toNat:Int) - 48))) = y.x∧ptv x.i x.k = ptv y.i y.k∧false = y.big∧IntKind.i64.wrap ((x.i:Int) + 1) = y.i)∧Inv162 (restB s) y∧(restB s).length - y.i < (restB s).length - x.i):=fun h1 h2=>by
    have hw8:IntKind.u8.wrap ((c.toNat:Int) - 48) = (c.toNat:Int) - 48:=wrap8_in (by omega) (by omega)
    rw [hw8,tdiv10 hx0.1 (by omega) (by omega)]
    have hvs:=valL_snoc x.ds c
    refine ⟨by omega,fun h=>db h1 h2 (by rw [hvs]; omega),fun h=>?_⟩
    rw [wrap64_in (n:=(c.toNat:Int) - 48) (by omega) (by omega),wrap64_in (n:=10 * x.x) (by omega) (by omega),wrap64_in (n:=10 * x.x + ((c.toNat:Int) - 48)) (by omega) (by omega)]
    refine ⟨⟨x.i + 1,x.ds ++ [c],x.k.map (· + 1),10 * x.x + ((c.toNat:Int) - 48),false⟩,⟨rfl,hstep _ _,rfl,by rw [wrap64_in (by omega) (by omega)]; simp⟩,?_,by simp only; omega⟩
    exact core' _ rfl (dig c (by omega)) (kdig c).1 (kdig c).2 (fun _=>by dsimp only; rw [hvs]; constructor <;> omega) (fun h=>by simp at h) (by simp only; omega)
   exact ⟨fun h46=>⟨fun hp=>⟨fun h0=>pt' h46 hp h0,fun h0=>⟨fun h=>bad' (fun h'=>h0 h'.2.2) (.inl h),fun h=>⟨fun h'=>bad' (fun h''=>h0 h''.2.2) (.inr h'),fun h'=>dg h h'⟩⟩⟩,fun hp=>⟨fun h=>bad' (fun h'=>hp h'.2.1) (.inl h),fun h=>⟨fun h'=>bad' (fun h''=>hp h''.2.1) (.inr h'),fun h'=>dg h h'⟩⟩⟩,fun h46=>⟨fun h=>bad' (fun h'=>h46 h'.1) (.inl h),fun h=>⟨fun h'=>bad' (fun h''=>h46 h''.1) (.inr h'),fun h'=>dg h h'⟩⟩⟩
 ·obtain ⟨hx,hie⟩:=hx
  have hpt:=hptv x hx
  obtain ⟨hi,hf,hk,hk0,hsm,hgr,hx0⟩:=hx
  rw [hie,List.take_length] at hf
  have hR:decP s = if x.ds = []∨x.k = some 0∨6 < x.k.getD 0 then (0,3) else decFin (negB s) (valX x.ds) (x.k.getD 0):=by rw [hdec,decR,hf]
  have hnil:restB s = [] ↔ x.i = 0:=by rw [hie]; exact List.length_eq_zero_iff.symm
  have hdw:∀ j,x.k = some j→IntKind.i64.wrap (IntKind.i64.wrap (((restB s).length:Int) - ptv x.i x.k) - 1) = j:=fun j hj=>by
   have:=(hk j hj).1
   simp only [hj,ptv]
   rw [wrap64_in (n:=((restB s).length:Int) - (x.i - j - 1)) (by omega) (by omega),wrap64_in (by omega) (by omega)]
   omega
  have ten:∀ j:Nat,j≤6→0 < 10 ^ (6 - j)∧10 ^ (6 - j)≤1000000:=fun j hj=>by
   constructor
   ·exact Nat.pow_pos (by omega)
   ·exact Nat.pow_le_pow_right (n:=10) (by omega) (show 6 - j≤6 by omega)
  have nofail:∀ j,x.ds ≠ []→(x.k = some j∧j ≠ 0∧j≤6∨x.k = none∧j = 0)→x.k.getD 0 = j→j≤6→¬ (x.ds = []∨x.k = some 0∨6 < x.k.getD 0):=fun j hd hj hkj h6=>by
   rintro (h | h | h)
   ·exact hd h
   ·rcases hj with ⟨h',h2,_⟩ | ⟨h',_⟩
    ·rw [h'] at h; simp only [Option.some.injEq] at h; exact h2 h
    ·rw [h'] at h; cases h
   ·rw [hkj] at h; omega
  have great:x.big = true→∀ j,x.ds ≠ []→(x.k = some j∧j ≠ 0∧j≤6∨x.k = none∧j = 0)→0 = (decP s).1∧2 = (decP s).2:=fun hb j hd hj=>by
   have hg:=hgr hb
   have hkj:x.k.getD 0 = j:=by rcases hj with ⟨h,_⟩ | ⟨h,h2⟩ <;> simp [h]; omega
   have h6:j≤6:=by omega
   rw [hR,if_neg (nofail j hd hj hkj h6),hkj,decFin,if_pos]
   ·exact ⟨rfl,rfl⟩
   ·have:=Nat.le_mul_of_pos_right (valX x.ds) (ten j h6).1
    omega
  have small:x.big = false→∀ j,x.ds ≠ []→(x.k = some j∧j ≠ 0∧j≤6∨x.k = none∧j = 0)→¬ ((10 ^ (6 - j):Nat):Int) = 0∧(IntKind.i64.wrap (Int.tdiv 1152921504606846976 ((10 ^ (6 - j):Nat):Int)) < x.x→0 = (decP s).1∧2 = (decP s).2) ∧
    (¬ IntKind.i64.wrap (Int.tdiv 1152921504606846976 ((10 ^ (6 - j):Nat):Int)) < x.x→(negB s = true→IntKind.i64.wrap (0 - IntKind.i64.wrap (x.x * ((10 ^ (6 - j):Nat):Int))) = (decP s).1∧0 = (decP s).2)∧(negB s = false→IntKind.i64.wrap (x.x * ((10 ^ (6 - j):Nat):Int)) = (decP s).1∧0 = (decP s).2)):=fun hb j hd hj=>by
   obtain ⟨hxv,hvm⟩:=hsm hb
   have hkj:x.k.getD 0 = j:=by rcases hj with ⟨h,_⟩ | ⟨h,h2⟩ <;> simp [h]; omega
   have h6:j≤6:=by omega
   obtain ⟨t1,t2⟩:=ten j h6
   rw [hR,if_neg (nofail j hd hj hkj h6),hkj,decFin,tdivp hx0.1 t1 t2,hxv]
   generalize hp:10 ^ (6 - j) = p at *
   have hmul:((valX x.ds:Nat):Int) * (p:Int) = ((valX x.ds * p:Nat):Int):=by simp
   rw [hmul]
   generalize valX x.ds * p = q
   refine ⟨by omega,fun h=>?_,fun h=>?_⟩
   ·rw [if_pos (by omega)]; exact ⟨rfl,rfl⟩
   ·rw [if_neg (by omega),wrap64_in (n:=(q:Int)) (by omega) (by omega),wrap64_in (n:=0 - (q:Int)) (by omega) (by omega)]
    refine ⟨fun hn=>?_,fun hn=>?_⟩
    ·rw [hn,if_pos rfl]; exact ⟨by dsimp only; omega,rfl⟩
    ·rw [hn,if_neg (by simp)]; exact ⟨rfl,rfl⟩
  have f0:x.ds = []→0 = (decP s).1∧3 = (decP s).2:=fun h=>by rw [hR,if_pos (.inl h)]; exact ⟨rfl,rfl⟩
  have fk:∀ j,x.k = some j→(j = 0∨6 < j)→0 = (decP s).1∧3 = (decP s).2:=fun j h h2=>by
   rw [hR,if_pos]
   ·exact ⟨rfl,rfl⟩
   ·rcases h2 with rfl | h2
    ·exact .inr (.inl h)
    ·exact .inr (.inr (by rw [h]; exact h2))
  cases hkx:x.k with
  | none =>
   have hneg:¬ 0≤ptv x.i none:=by simp [ptv]
   have hl0:=hk0 hkx
   have hd1:restB s = []→x.ds = []:=fun h=>List.length_eq_zero_iff.1 (by rw [hl0]; exact hnil.1 h)
   have hd2:¬ restB s = []→x.ds ≠ []:=fun h e=>h (hnil.2 (by rw [← hl0,e]; rfl))
   have g2:=fun hb hr=>great hb 0 (hd2 hr) (.inr ⟨hkx,rfl⟩)
   have s2:=fun hb hr=>small hb 0 (hd2 hr) (.inr ⟨hkx,rfl⟩)
   rw [show ((10 ^ (6 - 0):Nat):Int) = 1000000 from rfl] at s2
   refine ⟨fun hb=>⟨fun hn=>⟨fun h=>absurd h hneg,fun _=>⟨fun h=>f0 (hd1 h),fun h=>⟨⟨by omega,by omega⟩,1000000,rfl,g2 hb h⟩⟩⟩,fun hn=>⟨fun h=>absurd h hneg,fun _=>⟨fun h=>f0 (hd1 h),fun h=>⟨⟨by omega,by omega⟩,1000000,rfl,g2 hb h⟩⟩⟩⟩,
    fun hb=>⟨fun hn=>⟨fun h=>absurd h hneg,fun _=>⟨fun h=>f0 (hd1 h),fun h=>⟨⟨by omega,by omega⟩,1000000,rfl,(s2 hb h).1,(s2 hb h).2.1,fun h'=>((s2 hb h).2.2 h').1 hn⟩⟩⟩,fun hn=>⟨fun h=>absurd h hneg,fun _=>⟨fun h=>f0 (hd1 h),fun h=>⟨⟨by omega,by omega⟩,1000000,rfl,(s2 hb h).1,(s2 hb h).2.1,fun h'=>((s2 hb h).2.2 h').2 hn⟩⟩⟩⟩⟩
  | some j =>
   have hw:=hdw j hkx
   rw [hkx] at hw
   have hkj:=hk j hkx
   have hpos:0≤ptv x.i (some j):=by simp only [ptv]; omega
   have hw6:j≤6→IntKind.i64.wrap (6 - (j:Int)) = ((6 - j:Nat):Int):=fun h=>by rw [wrap64_in (by omega) (by omega)]; omega
   simp only [hw]
   have g2:=fun hb (h1:¬ (j:Int) = 0) (h2:¬ 6 < (j:Int))=>great hb j hkj.2 (.inl ⟨hkx,by omega,by omega⟩)
   have s2:=fun hb (h1:¬ (j:Int) = 0) (h2:¬ 6 < (j:Int))=>small hb j hkj.2 (.inl ⟨hkx,by omega,by omega⟩)
   have tk:=fun (h2:¬ 6 < (j:Int))=>show takeAt PQ 3 [tensA] 0 (IntKind.i64.wrap (6 - (j:Int))).toNat = some (.int .i64 ((10 ^ (6 - j):Nat):Int)) by rw [hw6 (by omega),Int.toNat_natCast]; exact tens_at (by omega)
   have bd:=fun (h2:¬ 6 < (j:Int))=>show 0≤IntKind.i64.wrap (6 - (j:Int))∧IntKind.i64.wrap (6 - (j:Int)) < 7 by rw [hw6 (by omega)]; omega
   have e0:restB s = []→0 = (decP s).1∧3 = (decP s).2:=fun h=>by have:=hnil.1 h; omega
   refine ⟨fun hb=>⟨fun hn=>⟨fun _=>⟨fun h=>fk j hkx (.inl (by omega)),fun h1=>⟨fun h=>fk j hkx (.inr (by omega)),fun h2=>⟨e0,fun _=>⟨bd h2,_,tk h2,g2 hb h1 h2⟩⟩⟩⟩,fun h=>absurd hpos h⟩,fun hn=>⟨fun _=>⟨fun h=>fk j hkx (.inl (by omega)),fun h1=>⟨fun h=>fk j hkx (.inr (by omega)),fun h2=>⟨e0,fun _=>⟨bd h2,_,tk h2,g2 hb h1 h2⟩⟩⟩⟩,fun h=>absurd hpos h⟩⟩,
    fun hb=>⟨fun hn=>⟨fun _=>⟨fun h=>fk j hkx (.inl (by omega)),fun h1=>⟨fun h=>fk j hkx (.inr (by omega)),fun h2=>⟨e0,fun _=>⟨bd h2,_,tk h2,(s2 hb h1 h2).1,(s2 hb h1 h2).2.1,fun h'=>((s2 hb h1 h2).2.2 h').1 hn⟩⟩⟩⟩,fun h=>absurd hpos h⟩,fun hn=>⟨fun _=>⟨fun h=>fk j hkx (.inl (by omega)),fun h1=>⟨fun h=>fk j hkx (.inr (by omega)),fun h2=>⟨e0,fun _=>⟨bd h2,_,tk h2,(s2 hb h1 h2).1,(s2 hb h1 h2).2.1,fun h'=>((s2 hb h1 h2).2.2 h').2 hn⟩⟩⟩⟩,fun h=>absurd hpos h⟩⟩⟩
theorem o162' (m:Int):SpecOk PQ (GQ m) 162 s162':=spec_of (X:=XL) (m:=[]) mixedQ tbl_nil itbl_nil fun args r h=>by
 unfold s162' at h
 split at h
 ·rename_i l
  split at h
  ·rename_i hl
   injection h with h; subst h
   have hp:=p162 m l hl.1
   rw [decP_decB hl.2] at hp
   exact ⟨a162 _,hp⟩
  ·cases h
 ·cases h
theorem o129' (m:Int):SpecOk PQ (GQ m) 129 s129:=o129 m (o162' m) (o89 m)
end Go.Abs.Lx
namespace Go.Abs.Lx
open Go.Proofs L8
def lt:List UInt8→Nat→Prop:=fun bs a=>a < bs.length
instance (bs : List UInt8) (a : Nat) : Decidable (lt bs a) := inferInstanceAs (Decidable (_ < _))
def isDig:List UInt8→Nat→Prop:=fun bs a=>a < bs.length∧digitB (bs.getD a 0) = true
instance (bs : List UInt8) (a : Nat) : Decidable (isDig bs a) := inferInstanceAs (Decidable (_ ∧ _))
def isQuo:List UInt8→Nat→Prop:=fun bs a=>a < bs.length∧bs.getD a 0 = 34
instance (bs : List UInt8) (a : Nat) : Decidable (isQuo bs a) := inferInstanceAs (Decidable (_ ∧ _))
def noSkip (c:UInt8):Bool:=!(blankB c || c == 35)
def isTok:List UInt8→Nat→Prop:=fun bs a=>a < bs.length∧noSkip (bs.getD a 0) = true
instance (bs : List UInt8) (a : Nat) : Decidable (isTok bs a) := inferInstanceAs (Decidable (_ ∧ _))
def any0:List UInt8→Nat→Prop:=fun _ _=>True
instance (bs : List UInt8) (a : Nat) : Decidable (any0 bs a) := inferInstanceAs (Decidable True)
end Go.Abs.Lx
namespace Go.Abs.Lx
open Go.Proofs L8
end Go.Abs.Lx
namespace Go.Abs.Lx
open Go.Proofs L8
end Go.Abs.Lx
namespace Go.Abs.Lx
open Go.Proofs L8
end Go.Abs.Lx
namespace Go.Abs.Lx
open Go.Proofs L8
end Go.Abs.Lx
namespace Go.Abs.Lx
open Go.Proofs L8
end Go.Abs.Lx
namespace Go.Abs.Lx
open Go.Proofs L8
end Go.Abs.Lx
namespace Go.Abs.Lx
open Go.Proofs L8
end Go.Abs.Lx
namespace Go.Abs.Lx
open Go.Proofs L8
end Go.Abs.Lx
namespace Go.Abs.Lx
open Go.Proofs L8
end Go.Abs.Lx
namespace Go.Abs.Lx
open Go.Proofs L8
end Go.Abs.Lx
namespace Go.Abs.Lx
open Go.Proofs L8
end Go.Abs.Lx
namespace Go.Abs.Lx
open Go.Proofs L8
def keptSet:List AV:=(List.range 256).map fun c=>.bool (decide (c = 10∨c = 34))
def keptSetA:AV:=.agg keptSet
def onBs (f:List UInt8→Option (AV × List (Nat × TypeId))):Spec:=fun args=>match args with
 | [.sl sz es .no]=>if sz = 1 then onBytes es f else none
 | _=>none
def decA (bs:List UInt8):AV:=.tup [.int .i32 (decodeL bs 0).1,.int .i64 (decodeL bs 0).2]
def hiB (bs:List UInt8):Prop:=∃ c t,bs = c :: t∧128≤c.toNat
instance (bs : List UInt8) : Decidable (hiB bs) := match bs with
 | []=>.isFalse fun ⟨_,_,h,_⟩=>nomatch h
 | c :: t=>if h:128≤c.toNat then .isTrue ⟨c,t,rfl,h⟩ else .isFalse fun ⟨_,_,h1,h2⟩=>by injection h1 with h1 h3; subst h1; exact h h2
def s194:Spec:=onBs fun bs=>if hiB bs∧bs.length≤1000000 then some (decA bs,[]) else none
def s168:Spec:=onBs fun bs=>if bs ≠ []∧bs.length≤1000000 then some (decA bs,[]) else none
def s165:Spec:=fun args=>match args with
 | [.int .i64 n]=>some (.bool (decide (8 < n)),[])
 | _=>none
def s166:Spec:=fun args=>match args with
 | [.str [34,10]]=>some (.tup [keptSetA,.bool true],[])
 | _=>none
def s167:ISpec:=fun args S=>match args,S with
 | [.ptr 0 0,.int .u8 c],⟨[some cs],[]⟩=>some (cs = keptSet∧0≤c∧c < 256,.bool (decide (c = 10∨c = 34)),⟨[some cs],[]⟩)
 | _,_=>none
def s169 (m:Int):Spec:=fun args=>match args with
 | [.str a,.str b]=>if 2≤b.length∧(b.length:Int)≤m∧a.length < 4294967281 then some (.int .i64 (Lib.index a b),[]) else none
 | _=>none
def shDec:Sh × Option TypeId:=(.tup [.one (.int .i32),.one (.int .i64)],none)
def XA:Shapes:=fun f=>match f with
 | 163 | 169=>some shI
 | 165=>some shB
 | 166=>some (.tup [.one (.is keptSetA),.one (.is (.bool true))],none)
 | 168 | 194=>some shDec
 | _=>none
def stL (bs:List UInt8):Nat:=(bs.takeWhile lineB).length
def a168 (bs:List UInt8):Anns:=⟨fun k=>if k = 2 then some { α:=Unit,slots:=[0,6,7,8],nb:=0,vals:=fun _=>[bytesA bs,bytesA bs,.int .i64 bs.length,.int .i64 0],sS:=fun _=>⟨[],[]⟩,I:=fun _=>True,μ:=fun _=>0 } else none,nA⟩
def a130 (bs:List UInt8):Anns:=⟨fun k=>match k with
 | 24=>some { α:=Nat,slots:=[7,60,61,62],nb:=1,vals:=fun i=>[.ptr 0 0,bytesA bs,.int .i64 bs.length,.int .i64 i],sS:=fun _=>⟨[some keptSet],[]⟩,I:=fun i=>i≤stL bs,μ:=fun i=>bs.length - i }
 | 32=>some { α:=Nat,slots:=[0,1,12],nb:=0,vals:=fun i=>[bytesA bs,.str [34,10],.int .i64 i],sS:=fun _=>⟨[],[]⟩,I:=fun i=>i≤stL bs,μ:=fun i=>bs.length - i }
 | 48 | 7=>some { α:=Unit,slots:=[],nb:=0,vals:=fun _=>[],sS:=fun _=>⟨[],[]⟩,I:=fun _=>False,μ:=fun _=>0,unroll:=3 }
 | _=>none,nA⟩
end Go.Abs.Lx
namespace Go.Abs.Lx
open Go.Proofs L8
theorem w165 (m n:Int):(pureW PQ (GQ m) XA (tbl []) (itbl []) nAn [] 165 [.int .i64 n] (.bool (decide (8 < n)),[])) =
((decide (n > (8:Int)) = true→RetIs (AV.bool true) [] (AV.bool (decide ((8:Int) < n)),[]))∧(decide (n > (8:Int)) = false→RetIs (AV.bool false) [] (AV.bool (decide ((8:Int) < n)),[]))):=by kernel_rfl
theorem w167 (m c:Int):(openW PQ (GQ m) XA (tbl []) (itbl []) nAn [] 167 [.ptr 0 0,.int .u8 c] ⟨[some keptSet],[]⟩ (.bool (decide (c = 10∨c = 34)),⟨[some keptSet],[]⟩)) =
(((0:Int)≤c∧c < (256:Int))∧∃ (b:Bool),takeA (some false) (some 1) keptSet ((0:Nat) + c.toNat * (1:Nat)) = some (AV.bool b)∧(b = true→RetOpen (AV.p2 1 (AV.bool true) && true) (AV.bool true) { boxes:=[some keptSet],live:=[] } (AV.bool (decide (c = (10:Int)∨c = (34:Int))),{ boxes:=[some keptSet],live:=[] }))∧(b = false→RetOpen (AV.p2 1 (AV.bool false) && true) (AV.bool false) { boxes:=[some keptSet],live:=[] } (AV.bool (decide (c = (10:Int)∨c = (34:Int))),{ boxes:=[some keptSet],live:=[] }))):=by kernel_rfl
abbrev w194c1 (bs:List UInt8):AV × List (Nat × TypeId):=(AV.tup [AV.int IntKind.i32 (↑(decodeL bs 0).fst:Int),AV.int IntKind.i64 (↑(decodeL bs 0).snd:Int)],[])
abbrev w194c2 (n_1:Int):=IntKind.u8.wrap (↑(BitVec.ofInt IntKind.u8.bits n_1 &&& BitVec.ofInt IntKind.u8.bits (7:Int)).toNat:Int)
abbrev w194c3:=AV.tup [AV.int IntKind.i32 (65533:Int),AV.int IntKind.i64 (1:Int)]
abbrev w194c4 (n_4:Int):=IntKind.u8.wrap (↑((fun (x1 x2:BitVec IntKind.u8.bits)=>x1 &&& x2) (BitVec.ofInt IntKind.u8.bits n_4) (BitVec.ofInt IntKind.u8.bits (63:Int))).toNat:Int)
abbrev w194c5 (n_5:Int):=IntKind.u8.wrap (↑((fun (x1 x2:BitVec IntKind.u8.bits)=>x1 &&& x2) (BitVec.ofInt IntKind.u8.bits n_5) (BitVec.ofInt IntKind.u8.bits (63:Int))).toNat:Int)
theorem w194 (m:Int) (bs:List UInt8):(pureW PQ (GQ m) XA (tbl []) (itbl []) nAn [] 194 [.sl 1 (bytesL bs) .no] (decA bs,[])) =
((decide ((↑(bytesL bs).length:Int) < (1:Int)) = true→RetIs (AV.tup [AV.int IntKind.i32 65533,I6 0]) [] (w194c1 bs))∧(decide ((↑(bytesL bs).length:Int) < (1:Int)) = false→((0:Int)≤(0:Int)∧(0:Int) < (↑(bytesL bs).length:Int))∧∃ (n:Int),takeAt PQ 5 (bytesL bs) 0 0 = some (AV.int IntKind.u8 n)∧((0:Int)≤n∧n < (256:Int))∧∃ (n_1:Int),takeAt PQ 5 [keptFirstA] 0 ((0:Nat) + n.toNat * (1:Nat)) = some (AV.int IntKind.u8 n_1)∧(decide (n_1 ≥ (240:Int)) = true→(0:Int)≤(31:Int)∧(0:Int)≤(31:Int)∧((0:Int)≤(0:Int)∧(0:Int) < (↑(bytesL bs).length:Int))∧∃ (n:Int),takeAt PQ 5 (bytesL bs) 0 0 = some (AV.int IntKind.u8 n)∧RetIs (AV.tup [AV.int IntKind.i32 (IntKind.i32.wrap (↑(BitVec.ofInt IntKind.i32.bits (IntKind.i32.wrap (↑((fun (x y:BitVec IntKind.i32.bits)=>x &&& ~~~y) (BitVec.ofInt IntKind.i32.bits (IntKind.i32.wrap n)) (BitVec.ofInt IntKind.i32.bits ((IntKind.i32.wrap (IntKind.i32.wrap n_1 * (2147483648:Int))).fdiv (2147483648:Int)))).toNat:Int)) ||| BitVec.ofInt IntKind.i32.bits (IntKind.i32.wrap (↑((fun (x1 x2:BitVec IntKind.i32.bits)=>x1 &&& x2) (BitVec.ofInt IntKind.i32.bits (65533:Int)) (BitVec.ofInt IntKind.i32.bits ((IntKind.i32.wrap (IntKind.i32.wrap n_1 * (2147483648:Int))).fdiv (2147483648:Int)))).toNat:Int))).toNat:Int)),I6 1]) [] (w194c1 bs))∧(decide (n_1 ≥ (240:Int)) = false→(0:Int)≤(4:Int)∧((0:Int)≤n_1.fdiv (16:Int)∧n_1.fdiv (16:Int) < (16:Int))∧∃ (n_2:Int),∃ (n_3:Int),takeAt PQ 244 [keptAccA] 0 ((0:Nat) + (n_1.fdiv (16:Int)).toNat * (2:Nat)) = some (AV.agg [AV.int IntKind.u8 n_2,AV.int IntKind.u8 n_3])∧(decide ((↑(bytesL bs).length:Int) < IntKind.i64.wrap (w194c2 n_1)) = true→RetIs w194c3 [] (w194c1 bs))∧(decide ((↑(bytesL bs).length:Int) < IntKind.i64.wrap (w194c2 n_1)) = false→((0:Int)≤(1:Int)∧(1:Int) < (↑(bytesL bs).length:Int))∧∃ (n_4:Int),takeAt PQ 5 (bytesL bs) 1 0 = some (AV.int IntKind.u8 n_4)∧(decide (n_4 < n_2) = true→RetIs w194c3 [] (w194c1 bs))∧(decide (n_4 < n_2) = false→(decide (n_3 < n_4) = true→RetIs w194c3 [] (w194c1 bs))∧(decide (n_3 < n_4) = false→(decide (IntKind.i64.wrap (w194c2 n_1)≤(2:Int)) = true→(0:Int)≤(6:Int)∧RetIs (AV.tup [AV.int IntKind.i32 (IntKind.i32.wrap (↑(BitVec.ofInt IntKind.i32.bits (IntKind.i32.wrap (IntKind.i32.wrap (IntKind.u8.wrap (↑((fun (x1 x2:BitVec IntKind.u8.bits)=>x1 &&& x2) (BitVec.ofInt IntKind.u8.bits n) (BitVec.ofInt IntKind.u8.bits (31:Int))).toNat:Int)) * (2:Int) ^ min (Int.toNat (6:Int)) IntKind.i32.bits)) ||| BitVec.ofInt IntKind.i32.bits (IntKind.i32.wrap (w194c4 n_4))).toNat:Int)),I6 2]) [] (w194c1 bs))∧(decide (IntKind.i64.wrap (w194c2 n_1)≤(2:Int)) = false→((0:Int)≤(2:Int)∧(2:Int) < (↑(bytesL bs).length:Int))∧∃ (n_5:Int),takeAt PQ 5 (bytesL bs) 2 0 = some (AV.int IntKind.u8 n_5)∧(decide (n_5 < (128:Int)) = true→RetIs w194c3 [] (w194c1 bs))∧(decide (n_5 < (128:Int)) = false→(decide ((191:Int) < n_5) = true→RetIs w194c3 [] (w194c1 bs))∧(decide ((191:Int) < n_5) = false→(decide (IntKind.i64.wrap (w194c2 n_1)≤(3:Int)) = true→(0:Int)≤(12:Int)∧(0:Int)≤(6:Int)∧RetIs (AV.tup [AV.int IntKind.i32 (IntKind.i32.wrap (↑(BitVec.ofInt IntKind.i32.bits (IntKind.i32.wrap (↑((fun (x1 x2:BitVec IntKind.i32.bits)=>x1 ||| x2) (BitVec.ofInt IntKind.i32.bits (IntKind.i32.wrap (IntKind.i32.wrap (IntKind.u8.wrap (↑((fun (x1 x2:BitVec IntKind.u8.bits)=>x1 &&& x2) (BitVec.ofInt IntKind.u8.bits n) (BitVec.ofInt IntKind.u8.bits (15:Int))).toNat:Int)) * (2:Int) ^ min (Int.toNat (12:Int)) IntKind.i32.bits))) (BitVec.ofInt IntKind.i32.bits (IntKind.i32.wrap (IntKind.i32.wrap (w194c4 n_4) * (2:Int) ^ min (Int.toNat (6:Int)) IntKind.i32.bits)))).toNat:Int)) ||| BitVec.ofInt IntKind.i32.bits (IntKind.i32.wrap (w194c5 n_5))).toNat:Int)),I6 3]) [] (w194c1 bs))∧(decide (IntKind.i64.wrap (w194c2 n_1)≤(3:Int)) = false→((0:Int)≤(3:Int)∧(3:Int) < (↑(bytesL bs).length:Int))∧∃ (n_6:Int),takeAt PQ 5 (bytesL bs) 3 0 = some (AV.int IntKind.u8 n_6)∧(decide (n_6 < (128:Int)) = true→RetIs w194c3 [] (w194c1 bs))∧(decide (n_6 < (128:Int)) = false→(decide ((191:Int) < n_6) = true→RetIs w194c3 [] (w194c1 bs))∧(decide ((191:Int) < n_6) = false→(0:Int)≤(18:Int)∧(0:Int)≤(12:Int)∧(0:Int)≤(6:Int)∧RetIs (AV.tup [AV.int IntKind.i32 (IntKind.i32.wrap (↑(BitVec.ofInt IntKind.i32.bits (IntKind.i32.wrap (↑((fun (x1 x2:BitVec IntKind.i32.bits)=>x1 ||| x2) (BitVec.ofInt IntKind.i32.bits (IntKind.i32.wrap (↑((fun (x1 x2:BitVec IntKind.i32.bits)=>x1 ||| x2) (BitVec.ofInt IntKind.i32.bits (IntKind.i32.wrap (IntKind.i32.wrap (IntKind.u8.wrap (↑((fun (x1 x2:BitVec IntKind.u8.bits)=>x1 &&& x2) (BitVec.ofInt IntKind.u8.bits n) (BitVec.ofInt IntKind.u8.bits (7:Int))).toNat:Int)) * (2:Int) ^ min (Int.toNat (18:Int)) IntKind.i32.bits))) (BitVec.ofInt IntKind.i32.bits (IntKind.i32.wrap (IntKind.i32.wrap (w194c4 n_4) * (2:Int) ^ min (Int.toNat (12:Int)) IntKind.i32.bits)))).toNat:Int))) (BitVec.ofInt IntKind.i32.bits (IntKind.i32.wrap (IntKind.i32.wrap (w194c5 n_5) * (2:Int) ^ min (Int.toNat (6:Int)) IntKind.i32.bits)))).toNat:Int)) ||| BitVec.ofInt IntKind.i32.bits (IntKind.i32.wrap (IntKind.u8.wrap (↑((fun (x1 x2:BitVec IntKind.u8.bits)=>x1 &&& x2) (BitVec.ofInt IntKind.u8.bits n_6) (BitVec.ofInt IntKind.u8.bits (63:Int))).toNat:Int)))).toNat:Int)),I6 4]) [] (w194c1 bs))))))))))))):=by kernel_rfl
abbrev w168c1 (bs:List UInt8):AV × List (Nat × TypeId):=(AV.tup [AV.int IntKind.i32 (↑(decodeL bs 0).fst:Int),AV.int IntKind.i64 (↑(decodeL bs 0).snd:Int)],[])
theorem w168 (m:Int) (bs:List UInt8):(pureW PQ (GQ m) XA (tbl [(194,s194)]) (itbl []) (a168 bs) [] 168 [.sl 1 (bytesL bs) .no] (decA bs,[])) =
((∃ (_y:Unit),ValsAre [AV.sl 1 (bytesL bs) Own.no,AV.sl 1 (bytesL bs) Own.no,I6 (↑(bytesL bs).length:Int),I6 0] [AV.sl 1 (bytesL bs) Own.no,AV.sl 1 (bytesL bs) Own.no,I6 (↑bs.length:Int),I6 0]∧StIs { boxes:=[],live:=[] } { boxes:=[],live:=[] }∧True∧True)∧∀ (_x:Unit),True→(decide ((0:Int) < (↑bs.length:Int)) = true→((0:Int)≤(0:Int)∧(0:Int) < (↑(bytesL bs).length:Int))∧∃ (n:Int),takeAt PQ 5 (bytesL bs) 0 0 = some (AV.int IntKind.u8 n)∧(decide (n < (128:Int)) = true→RetIs (AV.tup [AV.int IntKind.i32 (IntKind.i32.wrap n),I6 1]) [] (w168c1 bs))∧(decide (n < (128:Int)) = false→∃ (n:Int),∃ (n_1:Int),CallIs (tbl [(194,s194)] 194 [AV.sl 1 (bytesL bs) Own.no]) (AV.tup [AV.int IntKind.i32 n,I6 n_1]) []∧RetIs (AV.tup [AV.int IntKind.i32 n,I6 n_1]) [] (w168c1 bs)))∧(decide ((0:Int) < (↑bs.length:Int)) = false→∃ (n:Int),∃ (n_1:Int),CallIs (tbl [(194,s194)] 194 [AV.sl 1 (bytesL bs) Own.no]) (AV.tup [AV.int IntKind.i32 n,I6 n_1]) []∧RetIs (AV.tup [AV.int IntKind.i32 n,I6 n_1]) [] (w168c1 bs))):=by kernel_rfl
end Go.Abs.Lx
namespace Go.Abs.Lx
open Go.Proofs L8
theorem raw_and8 (x y:Int):IntKind.u8.wrap (↑(BitVec.ofInt IntKind.u8.bits x &&& BitVec.ofInt IntKind.u8.bits y).toNat) = bits .and .u8 x y:=rfl
theorem raw_or32 (x y:Int):IntKind.i32.wrap (↑(BitVec.ofInt IntKind.i32.bits x ||| BitVec.ofInt IntKind.i32.bits y).toNat) = bits .or .i32 x y:=rfl
theorem raw_and32 (x y:Int):IntKind.i32.wrap (↑(BitVec.ofInt IntKind.i32.bits x &&& BitVec.ofInt IntKind.i32.bits y).toNat) = bits .and .i32 x y:=rfl
theorem raw_not32 (x y:Int):IntKind.i32.wrap (↑(BitVec.ofInt IntKind.i32.bits x &&& ~~~BitVec.ofInt IntKind.i32.bits y).toNat) = bits .andNot .i32 x y:=rfl
theorem pw6:(2:Int) ^ min (Int.toNat (6:Int)) IntKind.i32.bits = 64:=rfl
theorem pw12:(2:Int) ^ min (Int.toNat (12:Int)) IntKind.i32.bits = 4096:=rfl
theorem pw18:(2:Int) ^ min (Int.toNat (18:Int)) IntKind.i32.bits = 262144:=rfl
theorem firstAt {c:Nat} (h:c < 256):takeAt PQ 5 [keptFirstA] 0 c = some (.int .u8 (Lib.firstT c)):=by
 have ha:aggA PQ 5 = some false:=by kernel_rfl
 have hs:∃ s,sizeA PQ 5 = some s:=⟨1,by kernel_rfl⟩
 obtain ⟨s,hs⟩:=hs
 simp only [takeAt,List.getElem?_cons_zero,ha,hs,takeA,keptFirstA,AV.cells,keptFirst,List.getElem?_map,List.getElem?_range h,Option.map_some]
theorem accAt {i:Nat} (h:i < 16):takeAt PQ 244 [keptAccA] 0 (i * 2) = some (.agg [.int .u8 (Lib.accLo i),.int .u8 (Lib.accHi i)]):=by
 have ha:aggA PQ 244 = some true:=by kernel_rfl
 have hs:sizeA PQ 244 = some 2:=by kernel_rfl
 simp only [takeAt,List.getElem?_cons_zero,ha,hs,takeA,keptAccA,AV.cells]
 match i,h with
 | 0,_ | 1,_ | 2,_ | 3,_ | 4,_ | 5,_ | 6,_ | 7,_ | 8,_ | 9,_ | 10,_ | 11,_ | 12,_ | 13,_ | 14,_ | 15,_=>rfl
 | i + 16,h=>exact absurd h (by omega)
theorem firstT_cases (b:Nat):Lib.firstT b = 240∨Lib.firstT b = 241∨Lib.firstT b = 2∨Lib.firstT b = 19∨Lib.firstT b = 3∨Lib.firstT b = 35∨Lib.firstT b = 52∨Lib.firstT b = 4∨Lib.firstT b = 68:=by
 unfold Lib.firstT
 repeat' split
 all_goals simp
theorem u8at {l:List UInt8} {i:Nat} (h:i < l.length):takeAt PQ 5 (bytesL l) i 0 = some (.int .u8 (l.getD i 0).toNat):=
 (take_u8_iff (by kernel_rfl) (by kernel_rfl)).2 ⟨h,rfl⟩
theorem getB {l:List UInt8} {i:Nat}:(((⟨l.toArray⟩:ByteArray).get! i).toNat) = (l.getD i 0).toNat:=by
 show ((l.toArray)[i]!).toNat = _
 simp only [List.getElem!_toArray,List.getElem!_eq_getElem?_getD,List.getD_eq_getElem?_getD]
 rfl
theorem decodeL_eq (l:List UInt8):decodeL l 0 = Lib.decodeN l.length (l.getD 0 0).toNat (l.getD 1 0).toNat (l.getD 2 0).toNat (l.getD 3 0).toNat:=by
 have h:=Lib.decode_at ⟨l.toArray⟩ 0
 simp only [getB,Nat.zero_add] at h
 exact h
theorem p165 (m n:Int):PureOk PQ (GQ m) XA (tbl []) (itbl []) nAn [] 165 [.int .i64 n] (.bool (decide (8 < n)),[]):=by
 constructor
 rw [w165]
 simp only [retIs_iff,Prod.mk.injEq,AV.bool.injEq,and_true,decide_eq_true_eq,decide_eq_false_iff_not]
 exact ⟨fun h=>(decide_eq_true (by omega)).symm,fun h=>(decide_eq_false (by omega)).symm⟩
set_option maxRecDepth 100000 in
theorem bad_rune {n:Int} (h0:0≤n) (h1:n < 256):bits .or .i32 (bits .andNot .i32 n (-1)) (bits .and .i32 65533 (-1)) = 65533:=by
 have:∀ x:Fin 256,bits .or .i32 (bits .andNot .i32 ((x.val:Nat):Int) (-1)) (bits .and .i32 65533 (-1)) = 65533:=by decide
 have h:=this ⟨n.toNat,by omega⟩
 simp only [Int.toNat_of_nonneg h0] at h
 exact h
theorem wrap32_in {n:Int} (h0:-2147483648≤n) (h1:n < 2147483648):IntKind.i32.wrap n = n:=by rw [IntKind.wrap_i32]; omega
set_option maxRecDepth 100000 in
set_option maxHeartbeats 4000000 in
theorem p194 (m:Int) (bs:List UInt8) (h:hiB bs) (hl:bs.length≤1000000):PureOk PQ (GQ m) XA (tbl []) (itbl []) nAn [] 194 [.sl 1 (bytesL bs) .no] (decA bs,[]):=by
 constructor
 rw [w194]; unfold w194c5 w194c4 w194c3 w194c2 w194c1 I6
 simp only [retIs_iff,bytesL_length,decide_eq_true_eq,decide_eq_false_iff_not,ge_iff_le,Prod.mk.injEq,AV.tup.injEq,List.cons.injEq,AV.int.injEq,and_true,true_and,raw_and8,raw_or32,raw_and32,raw_not32,pw6,pw12,pw18,Nat.zero_add,Nat.mul_one]
 rw [decodeL_eq]
 have hb:∀ i,(bs.getD i 0).toNat < 256:=fun i=>(bs.getD i 0).toNat_lt
 have hlen:1≤bs.length:=by obtain ⟨c,t,rfl,_⟩:=h; simp
 have h128:128≤(bs.getD 0 0).toNat:=by obtain ⟨c,t,rfl,h⟩:=h; simpa using h
 have hx0:Lib.firstT (bs.getD 0 0).toNat ≠ 240:=by
  unfold Lib.firstT
  repeat' split
  all_goals omega
 have slow:=Lib.slow_eq bs.length (bs.getD 0 0).toNat (bs.getD 1 0).toNat (bs.getD 2 0).toNat (bs.getD 3 0).toNat hlen (hb 1) (hb 2) (hb 3)
 have bad:=Lib.bad_eq bs.length (bs.getD 0 0).toNat (bs.getD 1 0).toNat (bs.getD 2 0).toNat (bs.getD 3 0).toNat (hb 0)
 have hcs:=firstT_cases (bs.getD 0 0).toNat
 have hb0:=hb 0
 have hb1:=hb 1
 have hb2:=hb 2
 have hb3:=hb 3
 have t0:=u8at (l:=bs) (i:=0) (by omega)
 have t1:1 < bs.length→_:=fun h=>u8at (l:=bs) (i:=1) h
 have t2:2 < bs.length→_:=fun h=>u8at (l:=bs) (i:=2) h
 have t3:3 < bs.length→_:=fun h=>u8at (l:=bs) (i:=3) h
 have tf:=firstAt hb0
 have hbb0:∀ k,IntKind.i32.wrap (bits .and .u8 ((bs.getD 0 0).toNat:Int) k) = bits .and .u8 ((bs.getD 0 0).toNat:Int) k:=fun k=>wrap32_in (by unfold bits; rw [IntKind.wrap_u8]; omega) (by unfold bits; rw [IntKind.wrap_u8]; omega)
 generalize (bs.getD 0 0).toNat = b0 at *
 generalize (bs.getD 1 0).toNat = b1 at *
 generalize (bs.getD 2 0).toNat = b2 at *
 generalize (bs.getD 3 0).toNat = b3 at *
 have w8:∀ {n:Int},0≤n→n < 256→IntKind.i32.wrap n = n:=fun h0 h1=>wrap32_in (by omega) (by omega)
 refine ⟨fun h=>by omega,fun _=>⟨by omega,(b0:Int),t0,by omega,?_⟩⟩
 rw [Int.toNat_natCast]
 refine ⟨_,tf,fun hx=>?_,fun hx=>?_⟩
 ·have he:Lib.firstT b0 = 241:=by omega
  refine ⟨by omega,by omega,by omega,_,t0,?_⟩
  rw [he,bad he]
  have e1:(IntKind.i32.wrap (IntKind.i32.wrap ((241:Nat):Int) * 2147483648)).fdiv 2147483648 = -1:=by decide
  rw [e1,w8 (by omega) (by omega),bad_rune (by omega) (by omega)]
  exact ⟨rfl,rfl⟩
 ·have hlow:Lib.firstT b0 < 240:=by omega
  have hs:=slow hlow
  have hd:((Lib.firstT b0:Int)).fdiv 16 = ((Lib.firstT b0 / 16:Nat):Int):=by
   rw [Int.fdiv_eq_ediv_of_nonneg _ (by omega)]; rfl
  have hsz:IntKind.i64.wrap (bits .and .u8 (Lib.firstT b0:Int) 7) = ((Lib.firstT b0 % 8:Nat):Int):=by
   have:=u8_and7 (x:=(Lib.firstT b0:Int)) (by omega) (by omega)
   rw [this,wrap64_in (by omega) (by omega)]; rfl
  have ta:=accAt (i:=Lib.firstT b0 / 16) (by omega)
  simp only [hd,hsz,Int.toNat_natCast,decide_eq_true_eq,decide_eq_false_iff_not]
  have hszc:Lib.firstT b0 % 8 = 2∨Lib.firstT b0 % 8 = 3∨Lib.firstT b0 % 8 = 4:=by omega
  generalize Lib.firstT b0 % 8 = sz at *
  generalize Lib.accLo (Lib.firstT b0 / 16) = lo at *
  generalize Lib.accHi (Lib.firstT b0 / 16) = hi at *
  have a96:=u8_and31 (x:=(b0:Int)) (by omega) (by omega)
  have a15:=u8_and15 (x:=(b0:Int)) (by omega) (by omega)
  have a7:=u8_and7 (x:=(b0:Int)) (by omega) (by omega)
  have c1:=u8_and63 (x:=(b1:Int)) (by omega) (by omega)
  have c2:=u8_and63 (x:=(b2:Int)) (by omega) (by omega)
  have c3:=u8_and63 (x:=(b3:Int)) (by omega) (by omega)
  refine ⟨by omega,by omega,_,_,ta,fun h1=>?_,fun h1=>⟨by omega,_,t1 (by omega),fun h2=>?_,fun h2=>⟨fun h3=>?_,fun h3=>⟨fun h4=>⟨by omega,?_⟩,fun h4=>⟨by omega,_,t2 (by omega),fun h5=>?_,fun h5=>⟨fun h6=>?_,fun h6=>⟨fun h7=>⟨by omega,by omega,?_⟩,fun h7=>⟨by omega,_,t3 (by omega),fun h8=>?_,fun h8=>⟨fun h9=>?_,fun h9=>⟨by omega,by omega,by omega,?_⟩⟩⟩⟩⟩⟩⟩⟩⟩⟩
  ·rw [← hs,Lib.slowN,if_pos (by omega)]; exact ⟨rfl,rfl⟩
  ·rw [← hs,Lib.slowN,if_neg (by omega),if_pos (by omega)]; exact ⟨rfl,rfl⟩
  ·rw [← hs,Lib.slowN,if_neg (by omega),if_pos (by omega)]; exact ⟨rfl,rfl⟩
  ·rw [← hs,Lib.slowN,if_neg (by omega),if_neg (by omega),if_pos (by omega)]
   refine ⟨?_,rfl⟩
   rw [a96,c1,wrap32_in (n:=(b0:Int) % 32) (by omega) (by omega),wrap32_in (n:=(b1:Int) % 64) (by omega) (by omega),wrap32_in (n:=(b0:Int) % 32 * 64) (by omega) (by omega),i32_or6 (x:=(b0:Int) % 32 * 64) (y:=(b1:Int) % 64) (by omega) (by omega) (by omega) (by omega) (by omega)]
   simp
  ·rw [← hs,Lib.slowN,if_neg (by omega),if_neg (by omega),if_neg (by omega),if_pos (by omega)]; exact ⟨rfl,rfl⟩
  ·rw [← hs,Lib.slowN,if_neg (by omega),if_neg (by omega),if_neg (by omega),if_pos (by omega)]; exact ⟨rfl,rfl⟩
  ·rw [← hs,Lib.slowN,if_neg (by omega),if_neg (by omega),if_neg (by omega),if_neg (by omega),if_pos (by omega)]
   refine ⟨?_,rfl⟩
   rw [a15,c1,c2,wrap32_in (n:=(b0:Int) % 16) (by omega) (by omega),wrap32_in (n:=(b1:Int) % 64) (by omega) (by omega),wrap32_in (n:=(b2:Int) % 64) (by omega) (by omega),wrap32_in (n:=(b0:Int) % 16 * 4096) (by omega) (by omega),wrap32_in (n:=(b1:Int) % 64 * 64) (by omega) (by omega),
    i32_or12 (x:=(b0:Int) % 16 * 4096) (y:=(b1:Int) % 64 * 64) (by omega) (by omega) (by omega) (by omega) (by omega),i32_or6 (x:=(b0:Int) % 16 * 4096 + (b1:Int) % 64 * 64) (y:=(b2:Int) % 64) (by omega) (by omega) (by omega) (by omega) (by omega)]
   simp
  ·rw [← hs,Lib.slowN,if_neg (by omega),if_neg (by omega),if_neg (by omega),if_neg (by omega),if_neg (by omega),if_pos (by omega)]; exact ⟨rfl,rfl⟩
  ·rw [← hs,Lib.slowN,if_neg (by omega),if_neg (by omega),if_neg (by omega),if_neg (by omega),if_neg (by omega),if_pos (by omega)]; exact ⟨rfl,rfl⟩
  ·rw [← hs,Lib.slowN,if_neg (by omega),if_neg (by omega),if_neg (by omega),if_neg (by omega),if_neg (by omega),if_neg (by omega)]
   refine ⟨?_,rfl⟩
   rw [a7,c1,c2,c3,wrap32_in (n:=(b0:Int) % 8) (by omega) (by omega),wrap32_in (n:=(b1:Int) % 64) (by omega) (by omega),wrap32_in (n:=(b2:Int) % 64) (by omega) (by omega),wrap32_in (n:=(b3:Int) % 64) (by omega) (by omega),wrap32_in (n:=(b0:Int) % 8 * 262144) (by omega) (by omega),wrap32_in (n:=(b1:Int) % 64 * 4096) (by omega) (by omega),wrap32_in (n:=(b2:Int) % 64 * 64) (by omega) (by omega),
    i32_or18 (x:=(b0:Int) % 8 * 262144) (y:=(b1:Int) % 64 * 4096) (by omega) (by omega) (by omega) (by omega) (by omega),i32_or12 (x:=(b0:Int) % 8 * 262144 + (b1:Int) % 64 * 4096) (y:=(b2:Int) % 64 * 64) (by omega) (by omega) (by omega) (by omega) (by omega),i32_or6 (x:=(b0:Int) % 8 * 262144 + (b1:Int) % 64 * 4096 + (b2:Int) % 64 * 64) (y:=(b3:Int) % 64) (by omega) (by omega) (by omega) (by omega) (by omega)]
   simp
end Go.Abs.Lx
namespace Go.Abs.Lx
open Go.Proofs L8
structure DecF (n b1 b2 b3:Nat) (d:Nat × Nat):Prop where
 pos:1≤d.2
 le4:d.2≤4
 le:d.2≤n
 hi:128≤d.1
 b1:1 < d.2→128≤b1
 b2:2 < d.2→128≤b2
 b3:3 < d.2→128≤b3
 len:d.1 ≠ 65533→(d.2 = 2∧d.1 < 2048)∨(d.2 = 3∧2048≤d.1∧d.1 < 65536)∨(d.2 = 4∧65536≤d.1)
 ok:(0≤d.1∧d.1 < 55296)∨(57344≤d.1∧d.1≤1114111)
set_option maxHeartbeats 2000000 in
theorem decF {n b0 b1 b2 b3:Nat} (hn:1≤n) (h0:128≤b0) (h0':b0 < 256) (h1:b1 < 256) (h2:b2 < 256) (h3:b3 < 256):DecF n b1 b2 b3 (Lib.decodeN n b0 b1 b2 b3):=by
 unfold Lib.decodeN
 rw [if_neg (by omega)]
 repeat' split
 all_goals constructor
 all_goals try omega
 all_goals try (simp only; omega)
theorem encF (r:Nat) (h:128≤r):∃ e0 u,(Utf8.encode (r:Int)).data.toList = e0 :: u∧192≤e0.toNat∧(((r < 55296)∨(57344≤r∧r≤1114111))→(r < 2048→u.length = 1)∧(2048≤r→r < 65536→u.length = 2)∧(65536≤r→u.length = 3)):=by
 have key:∀ c,128≤c→∃ e0 u,((if c < 0x80 then (⟨#[UInt8.ofNat c]⟩:ByteArray)
 else if c < 0x800 then ⟨#[UInt8.ofNat (0xC0 + c / 64),UInt8.ofNat (0x80 + c % 64)]⟩
 else if c < 0x10000 then ⟨#[UInt8.ofNat (0xE0 + c / 4096),UInt8.ofNat (0x80 + c / 64 % 64),UInt8.ofNat (0x80 + c % 64)]⟩
 else ⟨#[UInt8.ofNat (0xF0 + c / 262144),UInt8.ofNat (0x80 + c / 4096 % 64),UInt8.ofNat (0x80 + c / 64 % 64),UInt8.ofNat (0x80 + c % 64)]⟩).data.toList = e0 :: u)∧(c≤1114111→192≤e0.toNat)∧(c < 2048→u.length = 1)∧(2048≤c→c < 65536→u.length = 2)∧(65536≤c→u.length = 3):=by
  intro c hc
  rw [if_neg (by omega)]
  have hof:∀ n,n < 256→(UInt8.ofNat n).toNat = n:=fun n hn=>by simp; omega
  by_cases h1:c < 0x800
  ·rw [if_pos h1]
   exact ⟨_,_,rfl,fun _=>by rw [hof _ (by omega)]; omega,fun _=>rfl,fun h=>by omega,fun h=>by omega⟩
  ·rw [if_neg h1]
   by_cases h2:c < 0x10000
   ·rw [if_pos h2]
    exact ⟨_,_,rfl,fun _=>by rw [hof _ (by omega)]; omega,fun h=>by omega,fun _ _=>rfl,fun h=>by omega⟩
   ·rw [if_neg h2]
    exact ⟨_,_,rfl,fun _=>by rw [hof _ (by omega)]; omega,fun h=>by omega,fun _ _=>by omega,fun _=>rfl⟩
 unfold Utf8.encode
 by_cases hv:Utf8.valid (r:Int) = true
 ·simp only [hv,if_true,Int.toNat_natCast]
  obtain ⟨e0,u,h1,h2,h3⟩:=key r h
  refine ⟨e0,u,h1,h2 ?_,fun _=>h3⟩
  simp only [Utf8.valid,Bool.or_eq_true,Bool.and_eq_true,decide_eq_true_eq] at hv
  omega
 ·simp only [hv,if_false,Bool.false_eq_true,Utf8.runeError]
  obtain ⟨e0,u,h1,h2,h3⟩:=key 0xFFFD (by omega)
  refine ⟨e0,u,h1,h2 (by omega),fun h'=>?_⟩
  simp only [Utf8.valid,Bool.or_eq_true,Bool.and_eq_true,decide_eq_true_eq] at hv
  omega
theorem idx_none {e0:UInt8} {u:List UInt8} (h:192≤e0.toNat):Lib.index [34,10] (e0 :: u) = -1:=by
 have h1:¬ e0 = 34:=by rintro rfl; simp at h
 have h2:¬ e0 = 10:=by rintro rfl; simp at h
 have e1:(e0 == 34) = false:=by simpa using h1
 have e2:(e0 == 10) = false:=by simpa using h2
 simp [Lib.index,List.isPrefixOf,e1,e2]
theorem tw_add {p:UInt8→Bool}:∀ {k:Nat} {l:List UInt8} {x:Nat},x≤(l.takeWhile p).length→(∀ i,i < k→x + i < l.length∧p (l.getD (x + i) 0) = true)→x + k≤(l.takeWhile p).length
 | 0,l,x,hx,_=>hx
 | k + 1,l,x,hx,h=>by
  have h0:=h 0 (by omega)
  have h1:=tw_next (p:=p) hx h0.1 h0.2
  have:=tw_add (p:=p) (k:=k) (l:=l) (x:=x + 1) h1 fun i hi=>by
   have:=h (i + 1) (by omega)
   rw [show x + 1 + i = x + (i + 1) by omega]; exact this
  omega
end Go.Abs.Lx
namespace Go.Abs.Lx
open Go.Proofs L8
abbrev w130c2 (bs:List UInt8):AV × List (Nat × TypeId):=(AV.int IntKind.i64 (if stL bs < bs.length then (↑(stL bs):Int) else (-1:Int)),[])
abbrev w130c7 (bs:List UInt8) (x:Nat) (n_1:Int):List AV:=[AV.sl 1 (bytesL bs) Own.no,AV.str [34,10],AV.int IntKind.i64 (IntKind.i64.wrap ((↑x:Int) + n_1))]
abbrev w130c6 (bs:List UInt8) (y:Nat):List AV:=[AV.sl 1 (bytesL bs) Own.no,AV.str [34,10],AV.int IntKind.i64 (↑y:Int)]
abbrev w130c4 (bs:List UInt8) (x:Nat) (n_1:Int):Prop:=true = false→∃ (y:Nat),ValsAre (w130c7 bs x n_1) (w130c6 bs y)∧StIs { boxes:=[],live:=[] } { boxes:=[],live:=[] }∧y≤stL bs∧bs.length - y < bs.length - x
abbrev w130c3 (bs:List UInt8) (x:Nat) (n_1:Int):Prop:=false = false→∃ (y:Nat),ValsAre (w130c7 bs x n_1) (w130c6 bs y)∧StIs { boxes:=[],live:=[] } { boxes:=[],live:=[] }∧y≤stL bs∧bs.length - y < bs.length - x
abbrev w130c1 (n:Int) (x:Nat) (bs:List UInt8) (n_1:Int):Prop:=(0:Nat) < (2:Nat)→(true = true→((n == (34:Int)) = true→RetIs (I6 (↑x:Int)) [] (w130c2 bs))∧((n == (34:Int)) = false→((1:Nat) < (2:Nat)→(true = true→((n == (10:Int)) = true→RetIs (I6 (↑x:Int)) [] (w130c2 bs))∧((n == (10:Int)) = false→((2:Nat) < (2:Nat)→(true = true→((n == (0:Int)) = true→RetIs (I6 (↑x:Int)) [] (w130c2 bs))∧((n == (0:Int)) = false→False))∧(w130c4 bs x n_1))∧((2:Nat)≤(2:Nat)→(false = true→False)∧(w130c3 bs x n_1))))∧(w130c4 bs x n_1))∧((2:Nat)≤(1:Nat)→(false = true→False)∧(w130c3 bs x n_1))))∧(w130c4 bs x n_1)
abbrev w130c5 (n:Int) (x:Nat) (bs:List UInt8):Prop:=(0:Nat) < (2:Nat)→(true = true→((n == (34:Int)) = true→RetIs (I6 (↑x:Int)) [] (w130c2 bs))∧((n == (34:Int)) = false→((1:Nat) < (2:Nat)→(true = true→((n == (10:Int)) = true→RetIs (I6 (↑x:Int)) [] (w130c2 bs))∧((n == (10:Int)) = false→((2:Nat) < (2:Nat)→(true = true→((n == (0:Int)) = true→RetIs (I6 (↑x:Int)) [] (w130c2 bs))∧((n == (0:Int)) = false→False))∧(true = false→False))∧((2:Nat)≤(2:Nat)→(false = true→False)∧(false = false→False))))∧(true = false→False))∧((2:Nat)≤(1:Nat)→(false = true→False)∧(false = false→False))))∧(true = false→False)
abbrev w130c8 (m:Int) (x:Nat) (bs:List UInt8):=tbl [(163,sIndexByteString),(165,s165),(166,s166),(168,s168),(169,s169 m)] 168 [AV.sl 1 (List.drop (↑x:Int).toNat (List.take (bytesL bs).length (bytesL bs))) Own.no]
abbrev w130c9 (x:Nat) (bs:List UInt8):Prop:=(0:Int)≤(↑x:Int)∧(↑x:Int) < (↑(bytesL bs).length:Int)
abbrev w130c10 (m:Int) (n:Int):=tbl [(163,sIndexByteString),(165,s165),(166,s166),(168,s168),(169,s169 m)] 169 [AV.str [34,10],AV.str (Utf8.encode n).data.toList]
abbrev w130c11 (n:Int):=[(34:UInt8),(10:UInt8)] == (Utf8.encode n).data.toList
abbrev w130c12 (n:Int):AV × List (Nat × TypeId):=(AV.int IntKind.i64 (Lib.indexByte [(34:UInt8),(10:UInt8)] n.toNat.toUInt8),[])
abbrev w130c13 (bs:List UInt8):Prop:=false = false→RetIs (AV.int IntKind.i64 (-1)) [] (w130c2 bs)
theorem w130 (m:Int) (bs:List UInt8):(pureW PQ (GQ m) XA (tbl [(163,sIndexByteString),(165,s165),(166,s166),(168,s168),(169,s169 m)]) (itbl [(167,s167)]) (a130 bs) [] 130 [.sl 1 (bytesL bs) .no,.str [34,10]] (.int .i64 (if stL bs < bs.length then (stL bs:Int) else -1),[])) =
((false = true→RetIs (I6 (-1)) [] (w130c2 bs))∧(false = false→(((↑(bytesL bs).length:Int) == (1:Int)) = true→((0:Int)≤(0:Int)∧(0:Int) < (↑(bytesL bs).length:Int))∧∃ (n:Int),takeAt PQ 5 (bytesL bs) 0 0 = some (AV.int IntKind.u8 n)∧(decide (IntKind.i32.wrap n ≥ (128:Int)) = true→((0:Nat) < (2:Nat)→(true = true→(false = true→RetIs (I6 0) [] (w130c2 bs))∧(false = false→((1:Nat) < (2:Nat)→(true = true→(false = true→RetIs (I6 0) [] (w130c2 bs))∧(false = false→((2:Nat) < (2:Nat)→(true = true→(false = true→RetIs (I6 0) [] (w130c2 bs))∧(false = false→False))∧(true = false→RetIs (I6 (-1)) [] (w130c2 bs)))∧((2:Nat)≤(2:Nat)→(false = true→False)∧(w130c13 bs))))∧(true = false→RetIs (I6 (-1)) [] (w130c2 bs)))∧((2:Nat)≤(1:Nat)→(false = true→False)∧(w130c13 bs))))∧(true = false→RetIs (I6 (-1)) [] (w130c2 bs)))∧((2:Nat)≤(0:Nat)→(false = true→False)∧(w130c13 bs)))∧(decide (IntKind.i32.wrap n ≥ (128:Int)) = false→((0:Int)≤(0:Int)∧(0:Int) < (↑(bytesL bs).length:Int))∧∃ (n:Int),takeAt PQ 5 (bytesL bs) 0 0 = some (AV.int IntKind.u8 n)∧∃ (n_1:Int),CallIs (some (w130c12 n)) (I6 n_1) []∧(decide (n_1 ≥ (0:Int)) = true→RetIs (I6 0) [] (w130c2 bs))∧(decide (n_1 ≥ (0:Int)) = false→RetIs (I6 (-1)) [] (w130c2 bs))))∧(((↑(bytesL bs).length:Int) == (1:Int)) = false→(false = true→(0:Int)≤(0:Int)∧∃ (c:UInt8),some (34:UInt8) = some c∧(decide (IntKind.i32.wrap (↑c.toNat:Int) ≥ (128:Int)) = true→False)∧(decide (IntKind.i32.wrap (↑c.toNat:Int) ≥ (128:Int)) = false→False))∧(false = false→∃ (b:Bool),CallIs (some (AV.bool (decide ((8:Int) < (↑(bytesL bs).length:Int))),[])) (AV.bool b) []∧(b = true→CallIs (some (AV.tup [keptSetA,AV.bool true],[])) (AV.tup [keptSetA,AV.bool true]) []∧(true = true→(∃ (y:Nat),ValsAre [AV.ptr 0 0,AV.sl 1 (bytesL bs) Own.no,I6 (↑(bytesL bs).length:Int),I6 0] [AV.ptr 0 0,AV.sl 1 (bytesL bs) Own.no,I6 (↑bs.length:Int),I6 (↑y:Int)]∧StIs { boxes:=[some keptSet],live:=[] } { boxes:=[some keptSet],live:=[] }∧y≤stL bs∧True)∧∀ (x:Nat),x≤stL bs→(decide ((↑x:Int) < (↑bs.length:Int)) = true→(w130c9 x bs)∧∃ (n:Int),takeAt PQ 5 (bytesL bs) (↑x:Int).toNat 0 = some (AV.int IntKind.u8 n)∧(keptSet = keptSet∧(0:Int)≤n∧n < (256:Int))∧(decide (n = (10:Int)∨n = (34:Int)) = true→RetIs (I6 (↑x:Int)) [] (w130c2 bs))∧(decide (n = (10:Int)∨n = (34:Int)) = false→∃ (y:Nat),ValsAre [AV.ptr 0 0,AV.sl 1 (bytesL bs) Own.no,I6 (↑bs.length:Int),I6 (IntKind.i64.wrap ((↑x:Int) + (1:Int)))] [AV.ptr 0 0,AV.sl 1 (bytesL bs) Own.no,I6 (↑bs.length:Int),I6 (↑y:Int)]∧StIs { boxes:=[some keptSet],live:=[] } { boxes:=[some keptSet],live:=[] }∧y≤stL bs∧bs.length - y < bs.length - x))∧(decide ((↑x:Int) < (↑bs.length:Int)) = false→RetIs (I6 (-1)) [] (w130c2 bs)))∧(true = false→False∧∀ (x:Nat),x≤stL bs→(decide ((↑x:Int) < (↑(bytesL bs).length:Int)) = true→(w130c9 x bs)∧∃ (n:Int),takeAt PQ 5 (bytesL bs) (↑x:Int).toNat 0 = some (AV.int IntKind.u8 n)∧(decide (IntKind.i32.wrap n < (128:Int)) = true→(w130c9 x bs)∧∃ (n:Int),takeAt PQ 5 (bytesL bs) (↑x:Int).toNat 0 = some (AV.int IntKind.u8 n)∧∃ (n_1:Int),CallIs (some (w130c12 n)) (I6 n_1) []∧(decide (n_1 ≥ (0:Int)) = true→RetIs (I6 (↑x:Int)) [] (w130c2 bs))∧(decide (n_1 ≥ (0:Int)) = false→False))∧(decide (IntKind.i32.wrap n < (128:Int)) = false→(0:Int)≤(↑x:Int)∧((↑x:Int).toNat≤(bytesL bs).length∧(bytesL bs).length≤(bytesL bs).length)∧((1:Nat) = (1:Nat)∨bytesL bs = [])∧∃ (n:Int),∃ (n_1:Int),CallIs (w130c8 m x bs) (AV.tup [AV.int IntKind.i32 n,I6 n_1]) []∧((n != (65533:Int)) = true→(((2:Int) == n_1) = true→((w130c11 n) = true→RetIs (I6 (↑x:Int)) [] (w130c2 bs))∧((w130c11 n) = false→False))∧(((2:Int) == n_1) = false→∃ (n_2:Int),some (I6 m) = some (I6 n_2)∧(decide (n_2 ≥ n_1) = true→∃ (n_3:Int),CallIs (w130c10 m n) (I6 n_3) []∧(decide (n_3 ≥ (0:Int)) = true→RetIs (I6 (↑x:Int)) [] (w130c2 bs))∧(decide (n_3 ≥ (0:Int)) = false→False))∧(decide (n_2 ≥ n_1) = false→(w130c5 n x bs)∧((2:Nat)≤(0:Nat)→(false = true→False)∧(false = false→False)))))∧((n != (65533:Int)) = false→(w130c5 n x bs)∧((2:Nat)≤(0:Nat)→(false = true→False)∧(false = false→False)))))∧(decide ((↑x:Int) < (↑(bytesL bs).length:Int)) = false→RetIs (I6 (-1)) [] (w130c2 bs))))∧(b = false→(∃ (y:Nat),ValsAre [AV.sl 1 (bytesL bs) Own.no,AV.str [34,10],I6 0] (w130c6 bs y)∧StIs { boxes:=[],live:=[] } { boxes:=[],live:=[] }∧y≤stL bs∧True)∧∀ (x:Nat),x≤stL bs→(decide ((↑x:Int) < (↑(bytesL bs).length:Int)) = true→(w130c9 x bs)∧∃ (n:Int),takeAt PQ 5 (bytesL bs) (↑x:Int).toNat 0 = some (AV.int IntKind.u8 n)∧(decide (IntKind.i32.wrap n < (128:Int)) = true→(w130c9 x bs)∧∃ (n:Int),takeAt PQ 5 (bytesL bs) (↑x:Int).toNat 0 = some (AV.int IntKind.u8 n)∧∃ (n_1:Int),CallIs (some (w130c12 n)) (I6 n_1) []∧(decide (n_1 ≥ (0:Int)) = true→RetIs (I6 (↑x:Int)) [] (w130c2 bs))∧(decide (n_1 ≥ (0:Int)) = false→∃ (y:Nat),ValsAre [AV.sl 1 (bytesL bs) Own.no,AV.str [34,10],I6 (IntKind.i64.wrap ((↑x:Int) + (1:Int)))] (w130c6 bs y)∧StIs { boxes:=[],live:=[] } { boxes:=[],live:=[] }∧y≤stL bs∧bs.length - y < bs.length - x))∧(decide (IntKind.i32.wrap n < (128:Int)) = false→(0:Int)≤(↑x:Int)∧((↑x:Int).toNat≤(bytesL bs).length∧(bytesL bs).length≤(bytesL bs).length)∧((1:Nat) = (1:Nat)∨bytesL bs = [])∧∃ (n:Int),∃ (n_1:Int),CallIs (w130c8 m x bs) (AV.tup [AV.int IntKind.i32 n,I6 n_1]) []∧((n != (65533:Int)) = true→(((2:Int) == n_1) = true→((w130c11 n) = true→RetIs (I6 (↑x:Int)) [] (w130c2 bs))∧((w130c11 n) = false→∃ (y:Nat),ValsAre (w130c7 bs x n_1) (w130c6 bs y)∧StIs { boxes:=[],live:=[] } { boxes:=[],live:=[] }∧y≤stL bs∧bs.length - y < bs.length - x))∧(((2:Int) == n_1) = false→∃ (n_2:Int),some (I6 m) = some (I6 n_2)∧(decide (n_2 ≥ n_1) = true→∃ (n_3:Int),CallIs (w130c10 m n) (I6 n_3) []∧(decide (n_3 ≥ (0:Int)) = true→RetIs (I6 (↑x:Int)) [] (w130c2 bs))∧(decide (n_3 ≥ (0:Int)) = false→∃ (y:Nat),ValsAre (w130c7 bs x n_1) (w130c6 bs y)∧StIs { boxes:=[],live:=[] } { boxes:=[],live:=[] }∧y≤stL bs∧bs.length - y < bs.length - x))∧(decide (n_2 ≥ n_1) = false→(w130c1 n x bs n_1)∧((2:Nat)≤(0:Nat)→(false = true→False)∧(w130c3 bs x n_1)))))∧((n != (65533:Int)) = false→(w130c1 n x bs n_1)∧((2:Nat)≤(0:Nat)→(false = true→False)∧(w130c3 bs x n_1)))))∧(decide ((↑x:Int) < (↑(bytesL bs).length:Int)) = false→RetIs (I6 (-1)) [] (w130c2 bs))))))):=by kernel_rfl
end Go.Abs.Lx
namespace Go.Abs.Lx
open Go.Proofs L8
theorem ft_imp {p:Prop}:(false = true→p) ↔ True:=⟨fun _=>trivial,fun _ h=>nomatch h⟩
theorem ib_iff (c:UInt8):0≤Lib.indexByte [34,10] c ↔ (c = 34∨c = 10):=by
 simp only [Lib.indexByte]
 by_cases h1:c = 34
 ·subst h1; decide
 ·by_cases h2:c = 10
  ·subst h2; decide
  ·have e1:¬ 34 = c:=fun h=>h1 h.symm
   have e2:¬ 10 = c:=fun h=>h2 h.symm
   simp [h1,h2,e1,e2]
theorem lineB_iff (c:UInt8):lineB c = true ↔ ¬ (c = 34∨c = 10):=by simp [lineB]
theorem lineB_false (c:UInt8):lineB c = false ↔ (c = 34∨c = 10):=by
 rw [← Bool.not_eq_true,lineB_iff]; exact ⟨fun h=>Classical.byContradiction fun h'=>h h',fun h h'=>h' h⟩
theorem u8_of (c:UInt8):((c.toNat:Int)).toNat.toUInt8 = c:=by simp
theorem nat_eq_u8 {c:UInt8} {k:Nat} (hk:k < 256):((c.toNat:Int) = k) ↔ c = UInt8.ofNat k:=by
 rw [← UInt8.toNat_inj]; simp; omega
theorem st_stop {bs:List UInt8} {x:Nat} (hx:x≤stL bs) (hlt:x < bs.length) (h:bs.getD x 0 = 34∨bs.getD x 0 = 10):(x:Int) = if stL bs < bs.length then (stL bs:Int) else -1:=by
 have:x = stL bs:=tw_stop hx fun _=>(lineB_false _).2 h
 rw [if_pos (by omega),this]
theorem st_next {bs:List UInt8} {x:Nat} (hx:x≤stL bs) (hlt:x < bs.length) (h:¬ (bs.getD x 0 = 34∨bs.getD x 0 = 10)):x + 1≤stL bs:=tw_next hx hlt ((lineB_iff _).2 h)
set_option maxHeartbeats 4000000 in
theorem p130 (m:Int) (bs:List UInt8) (hl:bs.length≤1000000):PureOk PQ (GQ m) XA (tbl [(163,sIndexByteString),(165,s165),(166,s166),(168,s168),(169,s169 m)]) (itbl [(167,s167)]) (a130 bs) [] 130 [.sl 1 (bytesL bs) .no,.str [34,10]] (.int .i64 (if stL bs < bs.length then (stL bs:Int) else -1),[]):=by
 constructor
 rw [w130]; unfold w130c13 w130c12 w130c11 w130c10 w130c9 w130c8 w130c5 w130c1 w130c3 w130c4 w130c6 w130c7 w130c2 I6
 have e02:(0 < 2) = True:=by simp
 have e12:(1 < 2) = True:=by simp
 have e22:(2 < 2) = False:=by simp
 have f22:(2≤2) = True:=by simp
 have f21:(2≤1) = False:=by simp
 have f20:(2≤0) = False:=by simp
 simp only [callIs_iff,valsAre_iff,stIs_iff,retIs_iff,bytesL_length,Option.some.injEq,Prod.mk.injEq,AV.int.injEq,AV.bool.injEq,List.cons.injEq,and_true,true_and,decide_eq_true_eq,decide_eq_false_iff_not,beq_iff_eq,beq_eq_false_iff_ne,bne_iff_ne,bne_eq_false_iff_eq,tf_imp,ft_imp,true_implies,Int.toNat_natCast,ge_iff_le,e02,e12,e22,f22,f21,f20,false_implies,true_or,ne_eq]
 have hle:stL bs≤bs.length:=tw_le bs
 have hb:∀ i,(bs.getD i 0).toNat < 256:=fun i=>(bs.getD i 0).toNat_lt
 have fin:∀ x:Nat,x≤stL bs→¬ (x:Int) < bs.length→(-1:Int) = if stL bs < bs.length then (stL bs:Int) else -1:=fun x hx h=>by rw [if_neg (by omega)]
 have h34:∀ i,(((bs.getD i 0).toNat:Int) = 34 ↔ bs.getD i 0 = 34):=fun i=>nat_eq_u8 (k:=34) (by omega)
 have h10:∀ i,(((bs.getD i 0).toNat:Int) = 10 ↔ bs.getD i 0 = 10):=fun i=>nat_eq_u8 (k:=10) (by omega)
 have w133:∀ i,IntKind.i32.wrap ((bs.getD i 0).toNat:Int) = ((bs.getD i 0).toNat:Int):=fun i=>wrap32_in (by omega) (by have:=hb i; omega)
 have low:∀ i,128≤(bs.getD i 0).toNat→lineB (bs.getD i 0) = true:=fun i h=>by
  rw [lineB_iff]; rintro (h' | h') <;> rw [h'] at h <;> simp at h
 have land:∀ x k:Nat,x < bs.length→1≤k→x + k≤stL bs→∃ y:Nat,IntKind.i64.wrap ((x:Int) + (k:Int)) = y∧y≤stL bs∧bs.length - y < bs.length - x:=fun x k h0 h1 h2 =>
  ⟨x + k,by rw [wrap64_in (by omega) (by omega)]; simp,h2,by omega⟩
 refine ⟨fun h1=>⟨by omega,_,u8at (i:=0) (by omega),fun hhi=>?_,fun hlo=>⟨by omega,_,u8at (i:=0) (by omega),_,rfl,fun h=>?_,fun h=>?_⟩⟩,fun h1=>⟨_,rfl,fun h8=>⟨⟨0,rfl,Nat.zero_le _⟩,fun x hx=>⟨fun hlt=>⟨by omega,_,u8at (i:=x) (by omega),⟨by omega,by have:=hb x; omega⟩,fun h=>?_,fun h=>?_⟩,fin x hx⟩⟩,fun h8=>⟨⟨0,rfl,Nat.zero_le _⟩,fun x hx=>⟨fun hlt=>⟨by omega,_,u8at (i:=x) (by omega),fun hlo=>⟨by omega,_,u8at (i:=x) (by omega),_,rfl,fun h=>?_,fun h=>?_⟩,fun hhi=>⟨by omega,by omega,?_⟩⟩,fin x hx⟩⟩⟩⟩
 ·rw [w133] at hhi
  have:=tw_next (p:=lineB) (l:=bs) (k:=0) (by omega) (by omega) (low 0 (by omega))
  have:1≤stL bs:=this
  rw [if_neg (by omega)]
 ·rw [u8_of,ib_iff] at h
  exact st_stop (x:=0) (by omega) (by omega) h
 ·rw [u8_of,ib_iff] at h
  have:=st_next (x:=0) (by omega) (by omega) h
  rw [if_neg (by omega)]
 ·rw [h34,h10] at h
  exact st_stop hx (by omega) h.symm
 ·rw [h34,h10] at h
  have:=st_next hx (by omega) fun h'=>h h'.symm
  exact land x 1 (by omega) (by omega) this
 ·rw [u8_of,ib_iff] at h
  exact st_stop hx (by omega) h
 ·rw [u8_of,ib_iff] at h
  exact land x 1 (by omega) (by omega) (st_next hx (by omega) h)
 ·rw [w133] at hhi
  have hd:=decF (n:=(bs.drop x).length) (b0:=((bs.drop x).getD 0 0).toNat) (b1:=((bs.drop x).getD 1 0).toNat) (b2:=((bs.drop x).getD 2 0).toNat) (b3:=((bs.drop x).getD 3 0).toNat) (by rw [List.length_drop]; omega) (by rw [getD_drop',Nat.add_zero]; omega) (UInt8.toNat_lt _) (UInt8.toNat_lt _) (UInt8.toNat_lt _) (UInt8.toNat_lt _)
  rw [← decodeL_eq] at hd
  have t58:tbl [(163,sIndexByteString),(165,s165),(166,s166),(168,s168),(169,s169 m)] 168 [AV.sl 1 (List.drop x (List.take bs.length (bytesL bs))) Own.no] = some (decA (bs.drop x),[]):=by
   rw [tbl_miss (fun h=>absurd h (by decide)),tbl_miss (fun h=>absurd h (by decide)),tbl_miss (fun h=>absurd h (by decide)),tbl_hit]
   have e:List.drop x (List.take bs.length (bytesL bs)) = bytesL (bs.drop x):=by
    rw [List.take_of_length_le (by rw [bytesL_length]; exact Nat.le_refl _)]; simp [bytesL]
   rw [e]
   simp only [s168,onBs,onBytes,unBytes_mk,if_true]
   rw [if_pos ⟨by rw [← List.length_pos_iff,List.length_drop]; omega,by rw [List.length_drop]; omega⟩]
  refine ⟨_,_,t58,?_⟩
  obtain ⟨d1,d2,d3,d4,d5,d6,d7,d8,d9⟩:=hd
  simp only [getD_drop',List.length_drop] at d3 d5 d6 d7
  generalize decodeL (bs.drop x) 0 = d at *
  obtain ⟨e0,u,he,hge,hlen⟩:=encF d.1 d4
  have hadv:x + d.2≤stL bs:=tw_add hx fun i hi=>by
   refine ⟨by omega,low _ ?_⟩
   have hi4:i = 0∨i = 1∨i = 2∨i = 3:=by omega
   rcases hi4 with rfl | rfl | rfl | rfl
   ·rw [Nat.add_zero]; omega
   ·exact d5 (by omega)
   ·exact d6 (by omega)
   ·exact d7 (by omega)
  have hland:=land x d.2 (by omega) d1 hadv
  have n34:¬ (d.1:Int) = 34:=by omega
  have n10:¬ (d.1:Int) = 10:=by omega
  refine ⟨fun h3=>⟨fun h2=>⟨fun h=>?_,fun _=>hland⟩,fun h2=>⟨m,rfl,fun hm=>⟨-1,?_,fun h=>absurd h (by omega),fun _=>hland⟩,fun _=>⟨fun h=>absurd h n34,fun _=>⟨fun h=>absurd h n10,fun _=>hland⟩⟩⟩⟩,fun _=>⟨fun h=>absurd h n34,fun _=>⟨fun h=>absurd h n10,fun _=>hland⟩⟩⟩
  ·rw [he] at h
   have h0:34 = e0:=(List.cons.inj h).1
   rw [← h0] at hge
   exact absurd hge (by decide)
  ·rw [tbl_miss (fun h=>absurd h (by decide)),tbl_miss (fun h=>absurd h (by decide)),tbl_miss (fun h=>absurd h (by decide)),tbl_miss (fun h=>absurd h (by decide)),tbl_hit,he]
   simp only [s169]
   have hsz:=d8 (by omega)
   obtain ⟨l2,l3,l4⟩:=hlen (by omega)
   have hu:u.length + 1 = d.2:=by
    rcases hsz with ⟨a,b⟩ | ⟨a,b,c⟩ | ⟨a,b⟩
    ·rw [l2 b]; omega
    ·rw [l3 b c]; omega
    ·rw [l4 b]; omega
   rw [if_pos ⟨by simp only [List.length_cons]; omega,by simp only [List.length_cons]; omega,by simp only [List.length_cons,List.length_nil]; omega⟩,idx_none hge]
theorem p168 (m:Int) (bs:List UInt8) (hne:bs ≠ []) (hl:bs.length≤1000000):PureOk PQ (GQ m) XA (tbl [(194,s194)]) (itbl []) (a168 bs) [] 168 [.sl 1 (bytesL bs) .no] (decA bs,[]):=by
 constructor
 rw [w168]; unfold I6
 have hlen:0 < bs.length:=List.length_pos_iff.2 hne
 simp only [callIs_iff,valsAre_iff,stIs_iff,retIs_iff,bytesL_length,Prod.mk.injEq,AV.int.injEq,AV.tup.injEq,List.cons.injEq,and_true,true_and,and_self,decide_eq_true_eq,decide_eq_false_iff_not,true_implies]
 refine ⟨⟨(),trivial⟩,fun _=>⟨fun _=>⟨by omega,_,u8at (i:=0) hlen,fun hlo=>?_,fun hhi=>?_⟩,fun h=>by omega⟩⟩
 ·rw [decodeL_eq,Lib.decodeN,if_pos (by omega)]
  exact ⟨wrap32_in (by omega) (by omega),rfl⟩
 ·refine ⟨_,_,?_,rfl,rfl⟩
  rw [tbl_hit]
  simp only [s194,onBs,onBytes,unBytes_mk,if_true]
  have hh:hiB bs:=by
   cases bs with
   | nil=>exact absurd rfl hne
   | cons c t=>exact ⟨c,t,rfl,by simp at hhi; omega⟩
  rw [if_pos ⟨hh,hl⟩]
  rfl
theorem p167 (m c:Int) (h0:0≤c) (h1:c < 256):OpenOk PQ (GQ m) XA (tbl []) (itbl []) nAn [] 167 [.ptr 0 0,.int .u8 c] ⟨[some keptSet],[]⟩ (.bool (decide (c = 10∨c = 34)),⟨[some keptSet],[]⟩):=by
 constructor
 rw [w167]
 refine ⟨⟨h0,h1⟩,decide (c = 10∨c = 34),?_,fun h=>⟨rfl,by rw [h]⟩,fun h=>⟨rfl,by rw [h]⟩⟩
 have hlt:c.toNat < 256:=by omega
 simp only [takeA,Nat.zero_add,Nat.mul_one,keptSet,List.getElem?_map,List.getElem?_range hlt,Option.map_some]
 have e:decide (c.toNat = 10∨c.toNat = 34) = decide (c = 10∨c = 34):=decide_eq_decide.2 (by omega)
 rw [e]
set_option maxRecDepth 100000 in
theorem run166 (m:Int):(evs PQ (GQ m) (tbl lib8) (fun _=>[]) 60).1 166 [.str [34,10]] = some (.tup [keptSetA,.bool true],[]):=by kernel_rfl
theorem o166 (m:Int):SpecOk PQ (GQ m) 166 s166:=spec_run mixedQ (lib8_ok m) fun args r h=>by
 unfold s166 at h
 split at h
 ·injection h with h; subst h; exact ⟨60,run166 m⟩
 ·cases h
theorem o165 (m:Int):SpecOk PQ (GQ m) 165 s165:=spec_of (X:=XA) (m:=[]) mixedQ tbl_nil itbl_nil fun args r h=>by
 unfold s165 at h
 split at h
 ·injection h with h; subst h; exact ⟨nAn,p165 m _⟩
 ·cases h
theorem onBs_some {f:List UInt8→Option (AV × List (Nat × TypeId))} {args:List AV} {r:AV × List (Nat × TypeId)} (h:onBs f args = some r):∃ bs,args = [.sl 1 (bytesL bs) .no]∧f bs = some r:=by
 unfold onBs at h
 split at h
 ·split at h
  ·rename_i hsz
   subst hsz
   unfold onBytes at h
   split at h
   ·rename_i bs hb
    obtain rfl:=unBytes_some hb
    exact ⟨bs,rfl,h⟩
   ·cases h
  ·cases h
 ·cases h
theorem o194 (m:Int):SpecOk PQ (GQ m) 194 s194:=spec_of (X:=XA) (m:=[]) mixedQ tbl_nil itbl_nil fun args r h=>by
 obtain ⟨bs,rfl,h2⟩:=onBs_some h
 clear h
 split at h2
 ·rename_i hc; injection h2 with h2; subst h2; exact ⟨nAn,p194 m _ hc.1 hc.2⟩
 ·cases h2
theorem o168 (m:Int):SpecOk PQ (GQ m) 168 s168:=spec_of (X:=XA) (m:=[]) mixedQ (tbl_cons (o194 m) tbl_nil) itbl_nil fun args r h=>by
 obtain ⟨bs,rfl,h2⟩:=onBs_some h
 clear h
 split at h2
 ·rename_i hc; injection h2 with h2; subst h2; exact ⟨a168 bs,p168 m _ hc.1 hc.2⟩
 ·cases h2
theorem o167 (m:Int):ISpecOk PQ (GQ m) 167 s167:=ispec_of (X:=XA) (m:=[]) mixedQ tbl_nil itbl_nil fun args S p r h hp=>by
 unfold s167 at h
 split at h
 ·simp only [Option.some.injEq,Prod.mk.injEq] at h
  obtain ⟨h1,h2⟩:=h
  subst h1
  obtain ⟨rfl,k1,k2⟩:=hp
  rw [← h2]
  exact ⟨nAn,p167 m _ k1 k2⟩
 ·cases h
theorem o169 (m:Int):SpecOk PQ (GQ m) 169 (s169 m):=by
 intro g args r lv h E w vs hI hG hn' hv hcl
 simp only at h
 split at h
 case isFalse=>cases h
 case isTrue e =>
 subst e
 unfold s169 at h
 split at h
 case h_2=>cases h
 case h_1 a b =>
 split at h
 case isFalse=>cases h
 case isTrue hc =>
 simp only [Option.some.injEq,Prod.mk.injEq] at h
 obtain ⟨rfl,rfl⟩:=h
 obtain ⟨x,y,rfl⟩:=vs_two hn'
 obtain ⟨s,rfl,hs⟩:=rep_str (hv 0 _ _ rfl rfl)
 obtain ⟨t,rfl,ht⟩:=rep_str (hv 1 _ _ rfl rfl)
 have h1:s.size = a.length:=by rw [size_data,hs]
 have h2:t.size = b.length:=by rw [size_data,ht]
 refine .inr ⟨_,w,extern_value (fn:=Tryz.f169) (by kernel_rfl) (by kernel_rfl) (by kernel_rfl) (by kernel_rfl) (by kernel_rfl) (Lib.run_indexString s t w 0 m (by kernel_rfl) (glob_int hG rfl) (by omega) (by omega) (by omega)),_,rfl,res_same fun B K=>?_⟩
 rw [hs,ht]
 exact .int _ _
theorem o130 (m:Int):SpecOk PQ (GQ m) 130 s130:=spec_of (X:=XA) (m:=[]) mixedQ (tbl_cons (o_indexByteString (f:=163) (fn:=Tryz.f163) (by kernel_rfl) (by kernel_rfl) (by kernel_rfl) (by kernel_rfl) (by kernel_rfl)) (tbl_cons (o165 m) (tbl_cons (o166 m) (tbl_cons (o168 m) (tbl_cons (o169 m) tbl_nil))))) (itbl_cons (o167 m) itbl_nil) fun args r h=>by
 unfold s130 at h
 split at h
 ·split at h
  ·rename_i hsz
   subst hsz
   unfold onBytes at h
   split at h
   ·rename_i bs hb
    obtain rfl:=unBytes_some hb
    simp only at h
    split at h
    ·rename_i hl
     injection h with h; subst h; exact ⟨a130 bs,p130 m bs hl⟩
    ·cases h
   ·cases h
  ·cases h
 ·cases h
end Go.Abs.Lx
namespace Go.Abs.Lx
open Go.Proofs L8
end Go.Abs.Lx
namespace Go.Abs.Lx
open Go.Proofs L8
theorem tw_all {a:List UInt8} (h:a.all digitB = true):a.takeWhile digitB = a:=by
 induction a with
 | nil=>rfl
 | cons c t ih =>
  simp only [List.all_cons,Bool.and_eq_true] at h
  rw [List.takeWhile_cons,if_pos h.1,ih h.2]
theorem o36' (m:Int):SpecOk PQ (GQ m) 36 s36:=o36 m (o129' m) (o130 m)
end Go.Abs.Lx
namespace Go.Abs
open Go.Proofs
abbrev w11c1:List AV:=[AV.str [],AV.sl 0 [] Own.nil,AV.sl 0 [] Own.nil,AV.int IntKind.i64 0,AV.int IntKind.i64 0]
abbrev w11c2:List AV:=[AV.ptr 0 0,AV.ptr 1 0,AV.ptr 2 0,AV.ptr 4 0]
abbrev w11c3 (x:P2):List AV:=[AV.str x.r.entity,AV.sl 1 (strsL x.r.feats) (Own.tok 0),AV.sl 0 [] Own.nil,AV.int IntKind.i64 x.r.seed,AV.int IntKind.i64 x.r.permille]
abbrev w11c4 (x:P2):=List.drop 1 (List.take (toksL x.ts).length (toksL x.ts))
abbrev w11c5 (y:P2) (e:Int):St:={ boxes:=[some [AV.str y.r.entity,AV.sl 1 (strsL y.r.feats) (Own.tok 0),AV.sl 0 [] Own.nil,I6 y.r.seed,I6 y.r.permille],some [I6 0],some [I6 e],some [AV.sl 3 (toksL y.ts) Own.no],some [AV.ptr 3 0]],live:=[(y.r.feats.length,9)] }
abbrev w11c6 (y:P2) (e:Int):St:={ boxes:=[some [AV.str y.r.entity,AV.sl 1 (strsL y.r.feats) (Own.tok 0),AV.sl 3 (lbsL y.r.labels) (Own.tok 1),I6 y.r.seed,I6 y.r.permille],some [I6 0],some [I6 e],some [AV.sl 3 (toksL y.ts) Own.no],some [AV.ptr 3 0]],live:=[(y.r.feats.length,9),(y.r.labels.length,65)] }
abbrev w11c7 (x:P2):List AV:=[AV.str x.r.entity,AV.sl 1 (strsL x.r.feats) (Own.tok 0),AV.sl 3 (lbsL x.r.labels) (Own.tok 1),AV.int IntKind.i64 x.r.seed,AV.int IntKind.i64 x.r.permille]
abbrev w11c8 (x:P2):=List.drop (nat_lit 1) (List.take (toksL x.ts).length (toksL x.ts))
abbrev w11c9 (x:P2):List AV:=[AV.str x.r.entity,AV.sl (nat_lit 1) (strsL x.r.feats) (Own.tok (nat_lit 0)),AV.sl (nat_lit 3) (lbsL x.r.labels) (Own.tok (nat_lit 1)),AV.int IntKind.i64 x.r.seed,AV.int IntKind.i64 x.r.permille]
abbrev w11c23 (x:P2):=hdT (List.drop 1 (toksL x.ts))
abbrev w11c14 (x:P2) (e:Int) (r:AV):Prop:=true = false→RetLax (AV.tup [AV.agg (w11c3 x),AV.int IntKind.i64 0,AV.int IntKind.i64 e]) (r,[])
abbrev w11c10 (x:P2) (r:AV) (e:Int):Prop:=((w11c23 x).k = (2:Int)→False)→Option.all litOk (some (Value.iface 88 (Value.agg #[Value.int IntKind.i64 (w11c23 x).a,Value.int IntKind.i64 90]))) = true∧(true = true→RetLax (AV.tup [AV.agg w11c1,AV.int IntKind.i64 (w11c23 x).a,AV.int IntKind.i64 90]) (r,[]))∧(w11c14 x e r)
abbrev w11c11 (x:P2) (e:Int):St:={ boxes:=[some (w11c7 x),some [AV.int IntKind.i64 0],some [AV.int IntKind.i64 e],some [AV.sl 3 (toksL x.ts) Own.no],some [AV.ptr 3 0]],live:=[(x.r.feats.length,9),(x.r.labels.length,65)] }
abbrev w11c12 (x:P2):=some (Value.iface 88 (Value.agg #[Value.int IntKind.i64 (hdT (toksL x.ts)).a,Value.int IntKind.i64 90]))
abbrev w11c13 (x:P2) (r:AV):Prop:=true = true→RetLax (AV.tup [AV.agg w11c1,AV.int IntKind.i64 (hdT (toksL x.ts)).a,AV.int IntKind.i64 90]) (r,[])
abbrev w11c15 (x:P2) (e:Int) (r:AV):Prop:=true = false→RetLax (AV.tup [AV.agg (w11c7 x),AV.int IntKind.i64 0,AV.int IntKind.i64 e]) (r,[])
abbrev w11c16:List AV:=[AV.ptr 3 0,AV.fn 42 [AV.ptr 0 0,AV.ptr 4 0]]
abbrev w11c17 (y:P2) (e:Int):List (Option (List AV)):=[some [AV.str y.r.entity,AV.sl (nat_lit 1) (strsL y.r.feats) (Own.tok (nat_lit 0)),AV.sl (nat_lit 3) (lbsL y.r.labels) (Own.tok (nat_lit 1)),I6 y.r.seed,I6 y.r.permille],some [I6 0],some [I6 e],some [AV.sl (nat_lit 3) (toksL y.ts) Own.no],some [AV.ptr (nat_lit 3) (nat_lit 0)]]
abbrev w11c18 (x:P2):Prop:=(0:Int)≤(0:Int)∧(0:Int) < (↑(toksL x.ts).length:Int)
abbrev w11c19 (x:P2):List AV:=[AV.str x.r.entity,AV.sl 0 [] Own.nil,AV.sl 0 [] Own.nil,AV.int IntKind.i64 0,AV.int IntKind.i64 0]
abbrev w11c20:List AV:=[AV.str [],AV.sl (nat_lit 0) [] Own.nil,AV.sl (nat_lit 0) [] Own.nil,AV.int IntKind.i64 0,AV.int IntKind.i64 0]
abbrev w11c21 (x:P2) (e:Int):Prop:=TokIn (toksL x.ts)∧((w11c3 x).all (AV.p1 5) = true∧true = true∧[AV.int IntKind.i64 e].all (AV.p1 5) = true)∧(w11c3 x).all (AV.p1 6) = true∧true = true∧[AV.int IntKind.i64 e].all (AV.p1 6) = true
abbrev w11c22 (x:P2) (e:Int):St:={ boxes:=[some (w11c3 x),some [AV.int IntKind.i64 0],some [AV.int IntKind.i64 e],some [AV.sl 3 (toksL x.ts) Own.no],some [AV.ptr 3 0]],live:=[(x.r.feats.length,9)] }
abbrev w11c24 (x:P2) (e:Int):Prop:=TokIn (List.drop 1 (toksL x.ts))∧IntIn (List.drop 1 (toksL x.ts))∧(w11c3 x).all (AV.p1 5) = true∧true = true∧[AV.int IntKind.i64 e].all (AV.p1 5) = true
abbrev w11c25 (x:P2) (e:Int) (r:AV):Prop:=true = false→RetLax (AV.tup [AV.agg (w11c9 x),AV.int IntKind.i64 0,AV.int IntKind.i64 e]) (r,[])
abbrev w11c26 (ts:List Tk):=hdT (List.drop 1 (toksL ts))
abbrev w11c27 (x:P2):Prop:=(1:Nat)≤(toksL x.ts).length∧(toksL x.ts).length≤(toksL x.ts).length
abbrev w11c28 (e:Int):=AV.tup [AV.agg w11c1,AV.int IntKind.i64 0,AV.int IntKind.i64 e]
abbrev w11c29:List AV:=[AV.ptr 3 0,AV.fn 44 [AV.ptr 4 0,AV.ptr 0 0]]
abbrev w11c30:List AV:=[AV.ptr (nat_lit 3) (nat_lit 0),AV.fn (nat_lit 44) [AV.ptr (nat_lit 4) (nat_lit 0),AV.ptr (nat_lit 0) (nat_lit 0)]]
abbrev w11c31 (x:P2):=some (Value.iface 88 (Value.agg #[Value.int IntKind.i64 (hdT (w11c4 x)).a,Value.int IntKind.i64 90]))
theorem w11 (m:Int) (s:Spec) (bs:List UInt8) (ts:List Tk) (pb:List Pb) (e:Int) (r:AV):(tlaxW PQ idMk (GQ m) (XP ts pb e) (tbl [(36,s),(46,s46)]) (itbl []) fsN (JP m idMk s ts pb e) (gP ts e) 11 [bytesA bs] (r,[])) =
(CallIs (tbl [(36,s),(46,s46)] 36 [AV.sl 1 (bytesL bs) Own.no]) (AV.tup [AV.sl 3 (toksL ts) Own.no,AV.sl 2 (pbsL pb) Own.no,I6 e]) []∧((e != (0:Int)) = true→RetLax (w11c28 e) (r,[]))∧((e != (0:Int)) = false→(decide ((↑(pbsL pb).length:Int) > (0:Int)) = true→((0:Int)≤(0:Int)∧(0:Int) < (↑(pbsL pb).length:Int))∧∃ (n:Int),takeAt PQ 3 (pbsL pb) 0 0 = some (I6 n)∧((0:Int)≤(0:Int)∧(0:Int) < (↑(pbsL pb).length:Int))∧∃ (n_1:Int),takeAt PQ 28 (pbsL pb) 0 1 = some (I6 n_1)∧RetLax (AV.tup [AV.agg w11c1,I6 n,I6 n_1]) (r,[]))∧(decide ((↑(pbsL pb).length:Int) > (0:Int)) = false→(((↑(toksL ts).length:Int) == (0:Int)) = true→RetLax (AV.tup [AV.agg w11c1,I6 0,I6 90]) (r,[]))∧(((↑(toksL ts).length:Int) == (0:Int)) = false→(TokIn (toksL ts)∧(true = true∧true = true∧[I6 e].all (AV.p1 5) = true)∧true = true∧true = true∧[I6 e].all (AV.p1 6) = true)∧((hdT (toksL ts)).k = (1:Int)∧((hdT (toksL ts)).s == [111,102]) = true→((TokIn (List.drop 1 (toksL ts))∧true = true∧true = true∧[I6 e].all (AV.p1 5) = true)∧((w11c26 ts).k = (1:Int)∧accS 40 [] (w11c26 ts).s = true→∃ (y:P2),ValsAre w11c2 w11c2∧StIs { boxes:=[some [AV.str (w11c26 ts).s,AV.sl 0 [] Own.nil,AV.sl 0 [] Own.nil,I6 0,I6 0],some [I6 0],some [I6 e],some [AV.sl 3 (if (1:Int) = (6:Int) then List.drop 1 (toksL ts) else List.drop 1 (List.drop 1 (toksL ts))) Own.no],some [AV.ptr 3 0]],live:=[] } { boxes:=[some [AV.str y.r.entity,AV.sl 0 [] Own.nil,AV.sl 0 [] Own.nil,I6 0,I6 0],some [I6 0],some [I6 e],some [AV.sl 3 (toksL y.ts) Own.no],some [AV.ptr 3 0]],live:=[] }∧(GoodT y.ts∧parseTk ts = k12 { entity:=y.r.entity,feats:=[],labels:=[],seed:=(0:Int),permille:=(0:Int) } y.ts∧y.ts.length≤ts.length)∧True)∧(((w11c26 ts).k = (1:Int)∧accS 40 [] (w11c26 ts).s = true→False)→Option.all litOk (some (Value.iface 88 (Value.agg #[Value.int IntKind.i64 (w11c26 ts).a,Value.int IntKind.i64 90]))) = true∧(true = true→RetLax (AV.tup [AV.agg w11c1,I6 (w11c26 ts).a,I6 90]) (r,[]))∧(true = false→RetLax (w11c28 e) (r,[])))∧True)∧∀ (x:P2),GoodT x.ts∧parseTk ts = k12 { entity:=x.r.entity,feats:=[],labels:=[],seed:=(0:Int),permille:=(0:Int) } x.ts∧x.ts.length≤ts.length→True→((TokIn (toksL x.ts)∧((w11c19 x).all (AV.p1 5) = true∧true = true∧[I6 e].all (AV.p1 5) = true)∧(w11c19 x).all (AV.p1 6) = true∧true = true∧[I6 e].all (AV.p1 6) = true)∧((hdT (toksL x.ts)).k = (1:Int)∧((hdT (toksL x.ts)).s == [116,97,107,101]) = true→∃ (y:P2),ValsAre w11c2 w11c2∧StIs { boxes:=[some [AV.str x.r.entity,AV.sl 1 [] (Own.tok 0),AV.sl 0 [] Own.nil,I6 0,I6 0],some [I6 0],some [I6 e],some [AV.sl 3 (List.drop 1 (toksL x.ts)) Own.no],some [AV.ptr 3 0]],live:=[(0,9)] } (w11c5 y e)∧(GoodT y.ts∧parseTk ts = k13 y.r y.ts∧y.r.feats = []∧y.r.labels = []∧y.ts.length≤ts.length)∧True)∧(((hdT (toksL x.ts)).k = (1:Int)∧((hdT (toksL x.ts)).s == [116,97,107,101]) = true→False)→Option.all litOk (w11c12 x) = true∧(w11c13 x r)∧(true = false→RetLax (AV.tup [AV.agg (w11c19 x),I6 0,I6 e]) (r,[])))∧True)∧∀ (x:P2),GoodT x.ts∧parseTk ts = k13 x.r x.ts∧x.r.feats = []∧x.r.labels = []∧x.ts.length≤ts.length→True→((TokIn (toksL x.ts)∧(∃ (l:List (List UInt8)),strsL x.r.feats = strsL l)∧x.r.feats.length = (strsL x.r.feats).length∧(strsL x.r.feats).length≤(1000000:Nat)∧true = true∧[I6 e].all (AV.p1 5) = true)∧((hdT (toksL x.ts)).k = (1:Int)∧nameR (hdT (toksL x.ts)).s = true→(∃ (y:P2),ValsAre w11c16 w11c16∧StIs { boxes:=[some [AV.str x.r.entity,AV.sl 1 (strsL x.r.feats ++ [AV.str (hdT (toksL x.ts)).s]) (Own.tok 0),AV.sl 0 [] Own.nil,I6 x.r.seed,I6 x.r.permille],some [I6 0],some [I6 e],some [AV.sl 3 (List.drop 1 (toksL x.ts)) Own.no],some [AV.ptr 3 0]],live:=[((strsL x.r.feats).length + (1:Nat),9)] } (w11c5 y e)∧(GoodT y.ts∧parseTk ts = kMf y.r y.ts y.r.feats∧y.r.labels = []∧y.r.feats.length + y.ts.length≤ts.length)∧True)∧∀ (x:P2),GoodT x.ts∧parseTk ts = kMf x.r x.ts x.r.feats∧x.r.labels = []∧x.r.feats.length + x.ts.length≤ts.length→(w11c18 x)∧∃ (n:Int),takeAt PQ 3 (toksL x.ts) 0 0 = some (I6 n)∧((n == (5:Int)) = true→(w11c18 x)∧∃ (s:List UInt8),takeAt PQ 9 (toksL x.ts) 0 1 = some (AV.str s)∧((s == [44]) = true→(0:Int)≤(1:Int)∧(w11c27 x)∧((3:Nat) = (3:Nat)∨toksL x.ts = [])∧(TokIn (w11c4 x)∧(∃ (l:List (List UInt8)),strsL x.r.feats = strsL l)∧x.r.feats.length = (strsL x.r.feats).length∧(strsL x.r.feats).length≤(1000000:Nat)∧true = true∧[I6 e].all (AV.p1 5) = true)∧((hdT (w11c4 x)).k = (1:Int)∧nameR (hdT (w11c4 x)).s = true→∃ (y:P2),ValsAre w11c16 w11c16∧StIs { boxes:=[some [AV.str x.r.entity,AV.sl 1 (strsL x.r.feats ++ [AV.str (hdT (w11c4 x)).s]) (Own.tok 0),AV.sl 0 [] Own.nil,I6 x.r.seed,I6 x.r.permille],some [I6 0],some [I6 e],some [AV.sl 3 (List.drop 1 (w11c4 x)) Own.no],some [AV.ptr 3 0]],live:=[((strsL x.r.feats).length + (1:Nat),9)] } (w11c5 y e)∧(GoodT y.ts∧parseTk ts = kMf y.r y.ts y.r.feats∧y.r.labels = []∧y.r.feats.length + y.ts.length≤ts.length)∧y.ts.length < x.ts.length)∧(((hdT (w11c4 x)).k = (1:Int)∧nameR (hdT (w11c4 x)).s = true→False)→Option.all litOk (w11c31 x) = true∧(true = true→RetLax (AV.tup [AV.agg w11c1,I6 (hdT (w11c4 x)).a,I6 90]) (r,[]))∧(w11c14 x e r))∧True)∧((s == [44]) = false→∃ (y:P2),ValsAre w11c2 w11c2∧StIs (w11c22 x e) (w11c5 y e)∧(GoodT y.ts∧parseTk ts = k14 y.r y.ts∧y.r.labels = []∧y.ts.length≤ts.length)∧True))∧((n == (5:Int)) = false→∃ (y:P2),ValsAre w11c2 w11c2∧StIs (w11c22 x e) (w11c5 y e)∧(GoodT y.ts∧parseTk ts = k14 y.r y.ts∧y.r.labels = []∧y.ts.length≤ts.length)∧True))∧(((hdT (toksL x.ts)).k = (1:Int)∧nameR (hdT (toksL x.ts)).s = true→False)→Option.all litOk (w11c12 x) = true∧(w11c13 x r)∧(w11c14 x e r))∧True)∧∀ (x:P2),GoodT x.ts∧parseTk ts = k14 x.r x.ts∧x.r.labels = []∧x.ts.length≤ts.length→True→(w11c21 x e)∧((hdT (toksL x.ts)).k = (1:Int)∧((hdT (toksL x.ts)).s == [115,101,101,100]) = true→((w11c24 x e)∧((w11c23 x).k = (2:Int)→∃ (y:P2),ValsAre w11c2 w11c2∧StIs { boxes:=[some [AV.str x.r.entity,AV.sl 1 (strsL x.r.feats) (Own.tok 0),AV.sl 0 [] Own.nil,I6 (numV (w11c23 x).s),I6 x.r.permille],some [I6 0],some [I6 e],some [AV.sl 3 (List.drop 1 (List.drop 1 (toksL x.ts))) Own.no],some [AV.ptr 3 0]],live:=[(x.r.feats.length,9)] } (w11c5 y e)∧(GoodT y.ts∧parseTk ts = k16 y.r y.ts∧y.r.labels = []∧y.ts.length≤ts.length)∧True)∧(w11c10 x r e)∧True)∧∀ (x:P2),GoodT x.ts∧parseTk ts = k16 x.r x.ts∧x.r.labels = []∧x.ts.length≤ts.length→True→(w11c21 x e)∧((hdT (toksL x.ts)).k = (1:Int)∧((hdT (toksL x.ts)).s == [107,101,101,112]) = true→((w11c24 x e)∧((w11c23 x).k = (2:Int)→∃ (y:P2),ValsAre w11c2 w11c2∧StIs { boxes:=[some [AV.str x.r.entity,AV.sl 1 (strsL x.r.feats) (Own.tok 0),AV.sl 3 [] (Own.tok 1),I6 x.r.seed,I6 (numV (w11c23 x).s)],some [I6 0],some [I6 e],some [AV.sl 3 (List.drop 1 (List.drop 1 (toksL x.ts))) Own.no],some [AV.ptr 3 0]],live:=[(x.r.feats.length,9),(0,65)] } (w11c6 y e)∧(GoodT y.ts∧parseTk ts = k18 y.r y.ts∧y.r.labels = []∧y.ts.length≤ts.length)∧True)∧(w11c10 x r e)∧True)∧∀ (x:P2),GoodT x.ts∧parseTk ts = k18 x.r x.ts∧x.r.labels = []∧x.ts.length≤ts.length→True→((w11c18 x)∧∃ (n:Int),takeAt PQ 3 (toksL x.ts) 0 0 = some (I6 n)∧((n == (1:Int)) = true→(w11c18 x)∧∃ (s:List UInt8),takeAt PQ 9 (toksL x.ts) 0 1 = some (AV.str s)∧((s == [97,116]) = true→(0:Int)≤(1:Int)∧(w11c27 x)∧((3:Nat) = (3:Nat)∨toksL x.ts = [])∧(TokIn (w11c4 x)∧((hdT (w11c4 x)).k = (4:Int)→TokIn (List.drop 1 (w11c4 x))∧IntIn (List.drop 1 (w11c4 x)))∧((hdT (w11c4 x)).k = (4:Int)→(hdT (List.drop (1:Nat) (w11c4 x))).k = (2:Int)→TokIn (List.drop 2 (w11c4 x))∧IntIn (List.drop 2 (w11c4 x)))∧(∃ (l:List Lb),lbsL x.r.labels = lbsL l)∧x.r.labels.length = (lbsL x.r.labels).length∧(lbsL x.r.labels).length≤(1000000:Nat)∧(true = true∧[I6 e].all (AV.p1 5) = true)∧true = true∧[I6 e].all (AV.p1 6) = true)∧((hdT (w11c4 x)).k = (4:Int)∧(hdT (List.drop (1:Nat) (w11c4 x))).k = (2:Int)∧(hdT (List.drop (2:Nat) (w11c4 x))).k = (2:Int)→(∃ (y:P2),ValsAre w11c29 w11c29∧StIs { boxes:=[some [AV.str x.r.entity,AV.sl 1 (strsL x.r.feats) (Own.tok 0),AV.sl 3 (lbsL x.r.labels ++ [AV.agg [AV.str (hdT (w11c4 x)).s,I6 (numV (hdT (List.drop (1:Nat) (w11c4 x))).s),I6 (numV (hdT (List.drop (2:Nat) (w11c4 x))).s)]]) (Own.tok 1),I6 x.r.seed,I6 x.r.permille],some [I6 0],some [I6 e],some [AV.sl 3 (List.drop 3 (w11c4 x)) Own.no],some [AV.ptr 3 0]],live:=[(x.r.feats.length,9),((lbsL x.r.labels).length + (1:Nat),65)] } (w11c6 y e)∧(GoodT y.ts∧parseTk ts = kMl y.r y.ts y.r.labels∧y.r.labels.length + y.ts.length≤ts.length)∧True)∧∀ (x:P2),GoodT x.ts∧parseTk ts = kMl x.r x.ts x.r.labels∧x.r.labels.length + x.ts.length≤ts.length→(w11c18 x)∧∃ (n:Int),takeAt PQ 3 (toksL x.ts) 0 0 = some (I6 n)∧((n == (5:Int)) = true→(w11c18 x)∧∃ (s:List UInt8),takeAt PQ 9 (toksL x.ts) 0 1 = some (AV.str s)∧((s == [44]) = true→(0:Int)≤(1:Int)∧(w11c27 x)∧((3:Nat) = (3:Nat)∨toksL x.ts = [])∧(TokIn (w11c4 x)∧((hdT (w11c8 x)).k = (4:Int)→TokIn (List.drop (nat_lit 1) (w11c8 x))∧IntIn (List.drop (nat_lit 1) (w11c8 x)))∧((hdT (w11c8 x)).k = (4:Int)→(hdT (List.drop (1:Nat) (w11c8 x))).k = (2:Int)→TokIn (List.drop (nat_lit 2) (w11c8 x))∧IntIn (List.drop (nat_lit 2) (w11c8 x)))∧(∃ (l:List Lb),lbsL x.r.labels = lbsL l)∧x.r.labels.length = (lbsL x.r.labels).length∧(lbsL x.r.labels).length≤nat_lit 1000000∧(true = true∧[I6 e].all (AV.p1 5) = true)∧true = true∧[I6 e].all (AV.p1 6) = true)∧((hdT (w11c8 x)).k = (4:Int)∧(hdT (List.drop (1:Nat) (w11c8 x))).k = (2:Int)∧(hdT (List.drop (2:Nat) (w11c8 x))).k = (2:Int)→∃ (y:P2),ValsAre w11c30 w11c30∧StIs { boxes:=[some [AV.str x.r.entity,AV.sl (nat_lit 1) (strsL x.r.feats) (Own.tok (nat_lit 0)),AV.sl (nat_lit 3) (lbsL x.r.labels ++ [AV.agg [AV.str (hdT (w11c8 x)).s,I6 (numV (hdT (List.drop (1:Nat) (w11c8 x))).s),I6 (numV (hdT (List.drop (2:Nat) (w11c8 x))).s)]]) (Own.tok (nat_lit 1)),I6 x.r.seed,I6 x.r.permille],some [I6 0],some [I6 e],some [AV.sl (nat_lit 3) (List.drop (nat_lit 3) (w11c8 x)) Own.no],some [AV.ptr (nat_lit 3) (nat_lit 0)]],live:=[(x.r.feats.length,nat_lit 9),((lbsL x.r.labels).length + nat_lit 1,nat_lit 65)] } { boxes:=(w11c17 y e),live:=[(y.r.feats.length,nat_lit 9),(y.r.labels.length,nat_lit 65)] }∧(GoodT y.ts∧parseTk ts = kMl y.r y.ts y.r.labels∧y.r.labels.length + y.ts.length≤ts.length)∧y.ts.length < x.ts.length)∧(((hdT (w11c8 x)).k = (4:Int)→False)→Option.all litOk (some (Value.iface (nat_lit 88) (Value.agg #[Value.int IntKind.i64 (hdT (w11c8 x)).a,Value.int IntKind.i64 90]))) = true∧(true = true→RetLax (AV.tup [AV.agg w11c20,I6 (hdT (w11c8 x)).a,I6 90]) (r,[]))∧(w11c25 x e r))∧((hdT (w11c8 x)).k = (4:Int)∧(hdT (List.drop (1:Nat) (w11c8 x))).k ≠ (2:Int)→Option.all litOk (some (Value.iface (nat_lit 88) (Value.agg #[Value.int IntKind.i64 (hdT (List.drop (1:Nat) (w11c8 x))).a,Value.int IntKind.i64 90]))) = true∧(true = true→RetLax (AV.tup [AV.agg w11c20,I6 (hdT (List.drop (1:Nat) (w11c8 x))).a,I6 90]) (r,[]))∧(w11c25 x e r))∧((hdT (w11c8 x)).k = (4:Int)∧(hdT (List.drop (1:Nat) (w11c8 x))).k = (2:Int)∧(hdT (List.drop (2:Nat) (w11c8 x))).k ≠ (2:Int)→Option.all litOk (some (Value.iface (nat_lit 88) (Value.agg #[Value.int IntKind.i64 (hdT (List.drop (2:Nat) (w11c8 x))).a,Value.int IntKind.i64 90]))) = true∧(true = true→RetLax (AV.tup [AV.agg w11c20,I6 (hdT (List.drop (2:Nat) (w11c8 x))).a,I6 90]) (r,[]))∧(w11c25 x e r))∧True)∧((s == [44]) = false→∃ (y:P2),ValsAre w11c2 w11c2∧StIs { boxes:=[some (w11c9 x),some [I6 0],some [I6 e],some [AV.sl (nat_lit 3) (toksL x.ts) Own.no],some [AV.ptr (nat_lit 3) (nat_lit 0)]],live:=[(x.r.feats.length,9),(x.r.labels.length,nat_lit 65)] } { boxes:=(w11c17 y e),live:=[(y.r.feats.length,9),(y.r.labels.length,nat_lit 65)] }∧(GoodT y.ts∧parseTk ts = k21 y.r y.ts)∧True))∧((n == (5:Int)) = false→∃ (y:P2),ValsAre w11c2 w11c2∧StIs (w11c11 x e) (w11c6 y e)∧(GoodT y.ts∧parseTk ts = k21 y.r y.ts)∧True))∧(((hdT (w11c4 x)).k = (4:Int)→False)→Option.all litOk (w11c31 x) = true∧(true = true→RetLax (AV.tup [AV.agg w11c1,I6 (hdT (w11c4 x)).a,I6 90]) (r,[]))∧(w11c15 x e r))∧((hdT (w11c4 x)).k = (4:Int)∧(hdT (List.drop (1:Nat) (w11c4 x))).k ≠ (2:Int)→Option.all litOk (some (Value.iface 88 (Value.agg #[Value.int IntKind.i64 (hdT (List.drop (1:Nat) (w11c4 x))).a,Value.int IntKind.i64 90]))) = true∧(true = true→RetLax (AV.tup [AV.agg w11c1,I6 (hdT (List.drop (1:Nat) (w11c4 x))).a,I6 90]) (r,[]))∧(w11c15 x e r))∧((hdT (w11c4 x)).k = (4:Int)∧(hdT (List.drop (1:Nat) (w11c4 x))).k = (2:Int)∧(hdT (List.drop (2:Nat) (w11c4 x))).k ≠ (2:Int)→Option.all litOk (some (Value.iface 88 (Value.agg #[Value.int IntKind.i64 (hdT (List.drop (2:Nat) (w11c4 x))).a,Value.int IntKind.i64 90]))) = true∧(true = true→RetLax (AV.tup [AV.agg w11c1,I6 (hdT (List.drop (2:Nat) (w11c4 x))).a,I6 90]) (r,[]))∧(w11c15 x e r))∧True)∧((s == [97,116]) = false→∃ (y:P2),ValsAre w11c2 w11c2∧StIs (w11c11 x e) (w11c6 y e)∧(GoodT y.ts∧parseTk ts = k21 y.r y.ts)∧True))∧((n == (1:Int)) = false→∃ (y:P2),ValsAre w11c2 w11c2∧StIs (w11c11 x e) (w11c6 y e)∧(GoodT y.ts∧parseTk ts = k21 y.r y.ts)∧True))∧∀ (x:P2),GoodT x.ts∧parseTk ts = k21 x.r x.ts→True→(TokIn (toksL x.ts)∧(w11c7 x).all (AV.p1 5) = true∧true = true∧[I6 e].all (AV.p1 5) = true)∧((hdT (toksL x.ts)).k = (6:Int)∧accS 45 [] (hdT (toksL x.ts)).s = true→∃ (b:Bool),CallIs (tbl [(36,s),(46,s46)] 46 [AV.agg [AV.str x.r.entity,AV.sl 1 (strsL x.r.feats) Own.no,AV.sl 3 (lbsL x.r.labels) Own.no,I6 x.r.seed,I6 x.r.permille]]) (AV.bool b) []∧(b = true→true = true∧(false = true→RetLax (AV.tup [AV.agg w11c1,I6 0,I6 0]) (r,[]))∧(false = false→RetLax (AV.tup [AV.agg (w11c7 x),I6 0,I6 0]) (r,[])))∧(b = false→true = true∧(true = true→RetLax (AV.tup [AV.agg w11c1,I6 0,I6 240]) (r,[]))∧(w11c15 x e r)))∧(((hdT (toksL x.ts)).k = (6:Int)∧accS 45 [] (hdT (toksL x.ts)).s = true→False)→Option.all litOk (w11c12 x) = true∧(w11c13 x r)∧(w11c15 x e r))∧True)∧(((hdT (toksL x.ts)).k = (1:Int)∧((hdT (toksL x.ts)).s == [107,101,101,112]) = true→False)→Option.all litOk (w11c12 x) = true∧(w11c13 x r)∧(w11c14 x e r))∧True)∧(((hdT (toksL x.ts)).k = (1:Int)∧((hdT (toksL x.ts)).s == [115,101,101,100]) = true→False)→Option.all litOk (w11c12 x) = true∧(w11c13 x r)∧(w11c14 x e r))∧True)∧(((hdT (toksL ts)).k = (1:Int)∧((hdT (toksL ts)).s == [111,102]) = true→False)→Option.all litOk (some (Value.iface 88 (Value.agg #[Value.int IntKind.i64 (hdT (toksL ts)).a,Value.int IntKind.i64 90]))) = true∧(true = true→RetLax (AV.tup [AV.agg w11c1,I6 (hdT (toksL ts)).a,I6 90]) (r,[]))∧(true = false→RetLax (w11c28 e) (r,[])))∧True)))):=by kernel_rfl
theorem gt_cons {ts:List Tk} (h:GoodT ts):∃ t l,ts = t :: l:=by
 obtain ⟨l,t,rfl,_⟩:=h.ends
 cases l with
 | nil=>exact ⟨t,[],rfl⟩
 | cons a l=>exact ⟨a,l ++ [t],rfl⟩
theorem gt_tail {t:Tk} {l:List Tk} (h:GoodT (t :: l)) (hk:t.k ≠ 6):GoodT l:=by
 refine ⟨?_,fun u hu=>h.ints u (List.mem_cons_of_mem _ hu),by have:=h.few; simp only [List.length_cons] at this; omega⟩
 obtain ⟨l0,u,e,hu⟩:=h.ends
 cases l0 with
 | nil=>simp only [List.nil_append,List.cons.injEq] at e; obtain ⟨rfl,_⟩:=e; exact absurd hu hk
 | cons a l0 =>
  simp only [List.cons_append,List.cons.injEq] at e
  exact ⟨l0,u,e.2,hu⟩
theorem gt_tokIn {ts:List Tk} (h:GoodT ts):TokIn (toksL ts):=by
 obtain ⟨t,l,rfl⟩:=gt_cons h
 exact ⟨t,l,rfl⟩
theorem gt_intIn {ts:List Tk} (h:GoodT ts):IntIn (toksL ts):=by
 obtain ⟨t,l,rfl⟩:=gt_cons h
 exact ⟨fun hk=>h.ints t List.mem_cons_self hk⟩
theorem nx_ok {k:Int} {acc:List UInt8→Bool} {t:Tk} {l:List Tk} (h:t.k = k∧acc t.s = true) (hk:k ≠ 6):nx k acc (t :: l) = .ok (t.s,l):=by
 rw [nx,if_pos h,if_neg hk]
theorem nx_no {k:Int} {acc:List UInt8→Bool} {t:Tk} {l:List Tk} (h:¬ (t.k = k∧acc t.s = true)):nx k acc (t :: l) = .error t.a:=by
 rw [nx,if_neg h]
theorem thn_ok {α β:Type} {x:Except Int α} {f:α→Except Int β} {a:α} (h:x = .ok a):thn x f = f a:=by rw [h]; rfl
theorem thn_no {α β:Type} {x:Except Int α} {f:α→Except Int β} {a:Int} (h:x = .error a):thn x f = .error a:=by rw [h]; rfl
theorem num_okT {t:Tk} {l:List Tk} (h:t.k = 2):num (t :: l) = .ok (numV t.s,l):=by
 unfold num; rw [thn_ok (nx_ok ⟨h,rfl⟩ (by decide))]
theorem num_no {t:Tk} {l:List Tk} (h:t.k ≠ 2):num (t :: l) = .error t.a:=by
 unfold num; rw [thn_no (nx_no fun e=>h e.1)]
theorem take_k {t:Tk} {l:List Tk}:takeAt PQ 3 (toksL (t :: l)) 0 0 = some (.int .i64 t.k):=by kernel_rfl
theorem take_s {t:Tk} {l:List Tk}:takeAt PQ 9 (toksL (t :: l)) 0 1 = some (.str t.s):=by kernel_rfl
theorem take_pa {p:Pb} {l:List Pb}:takeAt PQ 3 (pbsL (p :: l)) 0 0 = some (.int .i64 p.a):=by kernel_rfl
theorem take_pc {p:Pb} {l:List Pb}:takeAt PQ 28 (pbsL (p :: l)) 0 1 = some (.int .i64 p.c):=by kernel_rfl
theorem lax_z (a c:Int):RetLax (.tup [.agg [.str [],.sl 0 [] .nil,.sl 0 [] .nil,.int .i64 0,.int .i64 0],.int .i64 a,.int .i64 c]) (zR a c,[]):=by
 refine ⟨⟨?_,rfl,rfl,trivial⟩,by rfl,rfl⟩
 exact ⟨rfl,⟨rfl,rfl,.inr rfl⟩,⟨rfl,rfl,.inr rfl⟩,rfl,rfl,trivial⟩
theorem lax_r (r:Rq):RetLax (.tup [.agg [.str r.entity,.sl 1 (strsL r.feats) (.tok 0),.sl 3 (lbsL r.labels) (.tok 1),.int .i64 r.seed,.int .i64 r.permille],.int .i64 0,.int .i64 0]) (.tup [rqA r,.int .i64 0,.int .i64 0],[]):=by
 refine ⟨⟨?_,rfl,rfl,trivial⟩,by rfl,rfl⟩
 exact ⟨rfl,⟨rfl,rfl,.inl rfl⟩,⟨rfl,rfl,.inl rfl⟩,rfl,rfl,trivial⟩
theorem moreF_end {t:Tk} {l:List Tk} {fs:List (List UInt8)} (h:isCm (t :: l) = false):moreF (t :: l) fs = .ok (fs,t :: l):=by
 cases l with
 | nil=>rfl
 | cons u l =>
  have h':isCm [t] = false:=h
  rw [moreF,h']; rfl
theorem moreL_end {t:Tk} {l:List Tk} {ls:List Lb} (h:isCm (t :: l) = false):moreL (t :: l) ls = .ok (ls,t :: l):=by
 have h':isCm [t] = false:=h
 match l with
 | []=>rfl
 | [a]=>rw [moreL,h']; rfl
 | [a,b]=>rw [moreL,h']; rfl
 | a :: b :: c :: l=>rw [moreL,h']; rfl
theorem cm_yes {t:Tk} {l:List Tk} (h1:(t.k == 5) = true) (h2:(t.s == [44]) = true):isCm (t :: l) = true:=by
 have:=eq_of_beq h1
 simp only [isCm,this,decide_true,h2,Bool.and_self]
theorem cm_no1 {t:Tk} {l:List Tk} (h1:(t.k == 5) = false):isCm (t :: l) = false:=by
 have:t.k ≠ 5:=by simpa using h1
 simp only [isCm,decide_eq_false this,Bool.false_and]
theorem cm_no2 {t:Tk} {l:List Tk} (h1:(t.s == [44]) = false):isCm (t :: l) = false:=by
 simp only [isCm,h1,Bool.and_false]
theorem at_yes {t:Tk} {l:List Tk} (h1:(t.k == 1) = true) (h2:(t.s == [97,116]) = true):isAtB (t :: l) = true:=by
 have:=eq_of_beq h1
 simp only [isAtB,this,decide_true,h2,Bool.and_self]
theorem at_no1 {t:Tk} {l:List Tk} (h1:(t.k == 1) = false):isAtB (t :: l) = false:=by
 have:t.k ≠ 1:=by simpa using h1
 simp only [isAtB,decide_eq_false this,Bool.false_and]
theorem at_no2 {t:Tk} {l:List Tk} (h1:(t.s == [97,116]) = false):isAtB (t :: l) = false:=by
 simp only [isAtB,h1,Bool.and_false]
theorem lab_no0 {a:Tk} {l:List Tk} (h:a.k ≠ 4):lab (a :: l) = .error a.a:=by
 unfold lab; rw [thn_no (nx_no fun e=>h e.1)]
theorem lab_no1 {a b:Tk} {l:List Tk} (h:a.k = 4) (h1:b.k ≠ 2):lab (a :: b :: l) = .error b.a:=by
 unfold lab; rw [thn_ok (nx_ok ⟨h,rfl⟩ (by decide)),thn_no (num_no h1)]
theorem lab_no2 {a b c:Tk} {l:List Tk} (h:a.k = 4) (h1:b.k = 2) (h2:c.k ≠ 2):lab (a :: b :: c :: l) = .error c.a:=by
 unfold lab; rw [thn_ok (nx_ok ⟨h,rfl⟩ (by decide)),thn_ok (num_okT h1),thn_no (num_no h2)]
theorem lab_ok {a b c:Tk} {l:List Tk} (h:a.k = 4) (h1:b.k = 2) (h2:c.k = 2):lab (a :: b :: c :: l) = .ok (⟨a.s,numV b.s,numV c.s⟩,l):=by
 unfold lab; rw [thn_ok (nx_ok ⟨h,rfl⟩ (by decide)),thn_ok (num_okT h1),thn_ok (num_okT h2)]
theorem moreL_no0 {t a:Tk} {l:List Tk} {ls:List Lb} (hc:isCm [t] = true) (h:a.k ≠ 4):moreL (t :: a :: l) ls = .error a.a:=by
 match l with
 | []=>rw [moreL,hc]; rfl
 | [b]=>rw [moreL,hc,if_pos rfl,if_neg h]
 | b :: c :: l=>rw [moreL,hc,if_pos rfl,if_neg h]
theorem moreL_no1 {t a b:Tk} {l:List Tk} {ls:List Lb} (hc:isCm [t] = true) (h:a.k = 4) (h1:b.k ≠ 2):moreL (t :: a :: b :: l) ls = .error b.a:=by
 match l with
 | []=>rw [moreL,hc,if_pos rfl,if_pos h]
 | c :: l=>rw [moreL,hc,if_pos rfl,if_pos h,if_neg h1]
theorem moreL_no2 {t a b c:Tk} {l:List Tk} {ls:List Lb} (hc:isCm [t] = true) (h:a.k = 4) (h1:b.k = 2) (h2:c.k ≠ 2):moreL (t :: a :: b :: c :: l) ls = .error c.a:=by
 rw [moreL,hc,if_pos rfl,if_pos h,if_pos h1,if_neg h2]
theorem moreL_ok {t a b c:Tk} {l:List Tk} {ls:List Lb} (hc:isCm [t] = true) (h:a.k = 4) (h1:b.k = 2) (h2:c.k = 2):moreL (t :: a :: b :: c :: l) ls = moreL l (ls ++ [⟨a.s,numV b.s,numV c.s⟩]):=by
 rw [moreL,hc,if_pos rfl,if_pos h,if_pos h1,if_pos h2]
theorem moreF_ok {t u:Tk} {l:List Tk} {fs:List (List UInt8)} (hc:isCm [t] = true) (h:u.k = 1∧nameR u.s = true):moreF (t :: u :: l) fs = moreF l (fs ++ [u.s]):=by
 rw [moreF,hc,if_pos rfl,if_pos h]
theorem moreF_no {t u:Tk} {l:List Tk} {fs:List (List UInt8)} (hc:isCm [t] = true) (h:¬ (u.k = 1∧nameR u.s = true)):moreF (t :: u :: l) fs = .error u.a:=by
 rw [moreF,hc,if_pos rfl,if_neg h]
theorem kMf_ok {en:List UInt8} {f1 f2 fs:List (List UInt8)} {ls:List Lb} {sd pm:Int} {t u:Tk} {l:List Tk} (hc:isCm [t] = true) (h:u.k = 1∧nameR u.s = true):kMf ⟨en,f1,ls,sd,pm⟩ (t :: u :: l) fs = kMf ⟨en,f2,ls,sd,pm⟩ l (fs ++ [u.s]):=by
 unfold kMf; rw [moreF_ok hc h]
theorem kMl_ok {en:List UInt8} {fs:List (List UInt8)} {l1 l2 ls:List Lb} {sd pm:Int} {t a b c:Tk} {l:List Tk} (hc:isCm [t] = true) (h:a.k = 4) (h1:b.k = 2) (h2:c.k = 2):kMl ⟨en,fs,l1,sd,pm⟩ (t :: a :: b :: c :: l) ls = kMl ⟨en,fs,l2,sd,pm⟩ l (ls ++ [⟨a.s,numV b.s,numV c.s⟩]):=by
 unfold kMl; rw [moreL_ok hc h h1 h2]
theorem lab_asked {l:List Tk} (G:GoodT l):TokIn (toksL l)∧((hdT (toksL l)).k = 4→TokIn (List.drop 1 (toksL l))∧IntIn (List.drop 1 (toksL l)))∧((hdT (toksL l)).k = 4→(hdT (List.drop 1 (toksL l))).k = 2→TokIn (List.drop 2 (toksL l))∧IntIn (List.drop 2 (toksL l))):=by
 obtain ⟨a,l,rfl⟩:=gt_cons G
 refine ⟨gt_tokIn G,fun h=>?_,fun h h1=>?_⟩
 ·have G1:=gt_tail G (by have h:a.k = 4:=h; rw [h]; decide)
  exact ⟨gt_tokIn G1,gt_intIn G1⟩
 ·have G1:=gt_tail G (by have h:a.k = 4:=h; rw [h]; decide)
  obtain ⟨b,l,rfl⟩:=gt_cons G1
  have G2:=gt_tail G1 (by have h1:b.k = 2:=h1; rw [h1]; decide)
  exact ⟨gt_tokIn G2,gt_intIn G2⟩
theorem lab_good {l:List Tk} (G:GoodT l) (h:(hdT (toksL l)).k = 4∧(hdT (List.drop 1 (toksL l))).k = 2∧(hdT (List.drop 2 (toksL l))).k = 2):∃ a b c l',l = a :: b :: c :: l'∧a.k = 4∧b.k = 2∧c.k = 2∧GoodT l':=by
 obtain ⟨h,h1,h2⟩:=h
 obtain ⟨a,l,rfl⟩:=gt_cons G
 have G1:=gt_tail G (by have h:a.k = 4:=h; rw [h]; decide)
 obtain ⟨b,l,rfl⟩:=gt_cons G1
 have G2:=gt_tail G1 (by have h1:b.k = 2:=h1; rw [h1]; decide)
 obtain ⟨c,l,rfl⟩:=gt_cons G2
 exact ⟨a,b,c,l,rfl,h,h1,h2,gt_tail G2 (by have h2:c.k = 2:=h2; rw [h2]; decide)⟩
theorem lab_bad0 {l:List Tk} (G:GoodT l) (h:¬ (hdT (toksL l)).k = 4):lab l = .error (hdT (toksL l)).a∧∀ t ls,isCm [t] = true→moreL (t :: l) ls = .error (hdT (toksL l)).a:=by
 obtain ⟨a,l,rfl⟩:=gt_cons G
 exact ⟨lab_no0 h,fun t ls hc=>moreL_no0 hc h⟩
theorem lab_bad1 {l:List Tk} (G:GoodT l) (h:(hdT (toksL l)).k = 4∧(hdT (List.drop 1 (toksL l))).k ≠ 2):lab l = .error (hdT (List.drop 1 (toksL l))).a∧∀ t ls,isCm [t] = true→moreL (t :: l) ls = .error (hdT (List.drop 1 (toksL l))).a:=by
 obtain ⟨h,h1⟩:=h
 obtain ⟨a,l,rfl⟩:=gt_cons G
 have G1:=gt_tail G (by have h:a.k = 4:=h; rw [h]; decide)
 obtain ⟨b,l,rfl⟩:=gt_cons G1
 exact ⟨lab_no1 h h1,fun t ls hc=>moreL_no1 hc h h1⟩
theorem lab_bad2 {l:List Tk} (G:GoodT l) (h:(hdT (toksL l)).k = 4∧(hdT (List.drop 1 (toksL l))).k = 2∧(hdT (List.drop 2 (toksL l))).k ≠ 2):lab l = .error (hdT (List.drop 2 (toksL l))).a∧∀ t ls,isCm [t] = true→moreL (t :: l) ls = .error (hdT (List.drop 2 (toksL l))).a:=by
 obtain ⟨h,h1,h2⟩:=h
 obtain ⟨a,l,rfl⟩:=gt_cons G
 have G1:=gt_tail G (by have h:a.k = 4:=h; rw [h]; decide)
 obtain ⟨b,l,rfl⟩:=gt_cons G1
 have G2:=gt_tail G1 (by have h1:b.k = 2:=h1; rw [h1]; decide)
 obtain ⟨c,l,rfl⟩:=gt_cons G2
 exact ⟨lab_no2 h h1 h2,fun t ls hc=>moreL_no2 hc h h1 h2⟩
theorem p11 (m:Int) (s:Spec) (bs:List UInt8) (ts:List Tk) (pb:List Pb) (e:Int) (hs:s [bytesA bs] = some (s36v ts pb e)) (hg:e = 0→pb = []→ts ≠ []→GoodT ts):TLaxOk PQ (GQ m) (XP ts pb e) (tbl [(36,s),(46,s46)]) (itbl []) fsN (JP m idMk s ts pb e) (gP ts e) 11 [bytesA bs] (resT ts pb e,[]):=by
 constructor
 rw [w11]; unfold w11c31 w11c30 w11c29 w11c28 w11c27 w11c26 w11c25 w11c24 w11c22 w11c21 w11c20 w11c19 w11c18 w11c17 w11c16 w11c15 w11c13 w11c12 w11c11 w11c10 w11c14 w11c23 w11c9 w11c8 w11c7 w11c6 w11c5 w11c4 w11c3 w11c2 w11c1 I6
 simp only [valsAre_iff,stIs_iff,callIs_iff,true_and,and_true,forall_const,Bool.true_eq_false,Bool.false_eq_true,false_implies,List.take_length,Int.le_refl,Int.reduceEq,if_false,List.drop_drop,Nat.reduceAdd,true_or]
 refine ⟨hs,fun h=>?_,fun he=>⟨fun hp=>?_,fun hp=>⟨fun hz=>?_,fun hz=>?_⟩⟩⟩
 ·have:e ≠ 0:=by simpa using h
  unfold resT; rw [if_pos this]
  exact lax_z _ _
 ·have e0:e = 0:=by simpa using he
  cases pb with
  | nil=>exact absurd (of_decide_eq_true hp) (by simp)
  | cons p l =>
   refine ⟨by simp,_,take_pa,by simp,_,take_pc,?_⟩
   unfold resT; rw [if_neg (by omega)]
   exact lax_z _ _
 ·have e0:e = 0:=by simpa using he
  have p0:pb = []:=by
   cases pb with
   | nil=>rfl
   | cons p l=>exact absurd (of_decide_eq_false hp) (by simp)
  have t0:ts = []:=by
   have:=eq_of_beq hz
   rw [List.length_map] at this
   exact List.length_eq_zero_iff.1 (by omega)
  unfold resT; rw [if_neg (by omega),p0]
  simp only [t0,if_true]
  exact lax_z _ _
 have e0:e = 0:=by simpa using he
 have p0:pb = []:=by
  cases pb with
  | nil=>rfl
  | cons p l=>exact absurd (of_decide_eq_false hp) (by simp)
 have t0:ts ≠ []:=by
  intro h0
  subst h0
  simp at hz
 have G:=hg e0 p0 t0
 have hres:resT ts pb e = resP (parseTk ts):=by
  unfold resT; rw [if_neg (by omega),p0]
  simp only [t0,if_false]
 rw [hres]
 have hfew:=G.few
 have bad:∀ a,parseTk ts = .error a→RetLax (.tup [.agg [.str [],.sl 0 [] .nil,.sl 0 [] .nil,.int .i64 0,.int .i64 0],.int .i64 a,.int .i64 90]) (resP (parseTk ts),[]):=fun a h=>by
  rw [h]; exact lax_z _ _
 clear hp he hz hg hres
 obtain ⟨t,l,hts⟩:=gt_cons G
 refine ⟨⟨⟨t,l,by rw [hts]⟩,rfl,rfl⟩,fun h1=>?_,fun h1=>⟨rfl,bad _ ?_⟩⟩
 rotate_left
 ·rw [hts] at h1 ⊢
  exact thn_no (nx_no fun x=>h1 x)
 have P11:parseTk ts = k11 l:=by rw [hts] at h1 ⊢; exact thn_ok (nx_ok h1 (by decide))
 have G1:GoodT l:=by
  rw [hts] at h1 G
  have:t.k = 1:=h1.1
  exact gt_tail G (by rw [this]; decide)
 have L1:l.length≤ts.length:=by rw [hts]; simp
 have hd1:∀ n,List.drop (n + 1) (toksL ts) = List.drop n (toksL l):=fun n=>by rw [hts]; rfl
 rw [hd1 0,hd1 1]
 obtain ⟨t1,l1,rfl⟩:=gt_cons G1
 refine ⟨⟨⟨⟨t1,l1,rfl⟩,rfl⟩,fun h2=>⟨⟨⟨t1.s,[],[],0,0⟩,l1⟩,rfl,gt_tail G1 ?_,P11.trans (thn_ok (nx_ok h2 (by decide))),by simp only [List.length_cons] at L1; exact Nat.le_trans (Nat.le_succ _) L1⟩,fun h2=>⟨rfl,bad _ (P11.trans (thn_no (nx_no fun x=>h2 x)))⟩⟩,?_⟩
 ·have:t1.k = 1:=h2.1
  rw [this]; decide
 rintro ⟨⟨en,fs0,ls0,sd0,pm0⟩,u⟩ ⟨G2,P12,L2⟩
 dsimp only at G2 P12 L2 ⊢
 obtain ⟨t2,l2,rfl⟩:=gt_cons G2
 refine ⟨⟨⟨⟨t2,l2,rfl⟩,⟨rfl,rfl⟩,rfl,rfl⟩,fun h=>⟨⟨⟨en,[],[],0,0⟩,l2⟩,rfl,gt_tail G2 ?_,P12.trans (thn_ok (nx_ok h (by decide))),rfl,rfl,Nat.le_trans (Nat.le_succ _) L2⟩,fun h=>⟨rfl,bad _ (P12.trans (thn_no (nx_no fun x=>h x)))⟩⟩,?_⟩
 ·have:t2.k = 1:=h.1
  rw [this]; decide
 clear G2 P12 L2 t2 l2
 rintro ⟨⟨en,fs,ls,sd,pm⟩,u⟩ ⟨G3,P13,hf,hlb,L3⟩
 dsimp only at G3 P13 hf hlb L3 ⊢
 subst hf; subst hlb
 obtain ⟨t3,l3,rfl⟩:=gt_cons G3
 refine ⟨⟨⟨⟨t3,l3,rfl⟩,⟨[],rfl⟩,rfl,Nat.zero_le _,rfl⟩,fun h=>⟨⟨⟨⟨en,[t3.s],[],sd,pm⟩,l3⟩,rfl,gt_tail G3 ?_,P13.trans (thn_ok (nx_ok h (by decide))),rfl,by simp only [List.length_cons,List.length_nil] at L3 ⊢; omega⟩,?_⟩,fun h=>⟨rfl,bad _ (P13.trans (thn_no (nx_no fun x=>h x)))⟩⟩,?_⟩
 ·have:t3.k = 1:=h.1
  rw [this]; decide
 ·-- the features
  clear P13 G3 h L3
  rintro ⟨⟨en,fs,ls,sd,pm⟩,u⟩ ⟨G4,P4,hlb,L4⟩
  dsimp only at G4 P4 hlb L4 ⊢
  subst hlb
  obtain ⟨t4,l4,rfl⟩:=gt_cons G4
  have hn:(strsL fs).length = fs.length:=List.length_map _
  have stop:isCm (t4 :: l4) = false→parseTk ts = k14 ⟨en,fs,[],sd,pm⟩ (t4 :: l4):=fun hc=>P4.trans (thn_ok (moreF_end hc))
  refine ⟨len_tok _ _,_,take_k,fun c5=>⟨len_tok _ _,_,take_s,fun cs=>?_,fun cs=>⟨⟨⟨en,fs,[],sd,pm⟩,t4 :: l4⟩,rfl,G4,stop (cm_no2 cs),rfl,Nat.le_trans (Nat.le_add_left _ _) L4⟩⟩,fun c5=>⟨⟨⟨en,fs,[],sd,pm⟩,t4 :: l4⟩,rfl,G4,stop (cm_no1 c5),rfl,Nat.le_trans (Nat.le_add_left _ _) L4⟩⟩
  have hc:isCm [t4] = true:=cm_yes c5 cs
  have G5:GoodT l4:=gt_tail G4 (by have:=eq_of_beq c5; rw [this]; decide)
  obtain ⟨t5,l5,rfl⟩:=gt_cons G5
  refine ⟨by omega,⟨len_tok1 _ _,Nat.le_refl _⟩,⟨⟨t5,l5,rfl⟩,⟨fs,rfl⟩,hn.symm,by simp only [List.length_cons] at L4; omega,rfl⟩,fun h=>⟨⟨⟨en,fs ++ [t5.s],[],sd,pm⟩,l5⟩,?_,⟨gt_tail G5 ?_,P4.trans (kMf_ok hc h),rfl,by simp only [List.length_cons,List.length_append,List.length_nil] at L4 ⊢; omega⟩,by simp only [List.length_cons]; omega⟩,fun h=>⟨rfl,bad _ (P4.trans (thn_no (moreF_no hc fun x=>h x)))⟩⟩
  ·simp only [List.map_append,List.length_append,hn]; rfl
  ·have:t5.k = 1:=h.1
   rw [this]; decide
 clear P13 G3 L3 t3 l3
 rintro ⟨⟨en,fs,ls,sd,pm⟩,u⟩ ⟨G4,P14,hlb,L4⟩
 dsimp only at G4 P14 hlb L4 ⊢
 subst hlb
 obtain ⟨t4,l4,rfl⟩:=gt_cons G4
 refine ⟨⟨⟨t4,l4,rfl⟩,⟨rfl,rfl⟩,rfl,rfl⟩,fun h=>?_,fun h=>⟨rfl,bad _ (P14.trans (thn_no (nx_no fun x=>h x)))⟩⟩
 have P15:parseTk ts = k15 ⟨en,fs,[],sd,pm⟩ l4:=P14.trans (thn_ok (nx_ok h (by decide)))
 have G5:GoodT l4:=gt_tail G4 (by have:t4.k = 1:=h.1; rw [this]; decide)
 obtain ⟨t5,l5,rfl⟩:=gt_cons G5
 refine ⟨⟨⟨⟨t5,l5,rfl⟩,gt_intIn G5,rfl,rfl⟩,fun h=>⟨⟨⟨en,fs,[],numV t5.s,pm⟩,l5⟩,rfl,gt_tail G5 ?_,P15.trans (thn_ok (num_okT h)),rfl,by simp only [List.length_cons] at L4 ⊢; omega⟩,fun h=>⟨rfl,bad _ (P15.trans (thn_no (num_no h)))⟩⟩,?_⟩
 ·have h:t5.k = 2:=h
  rw [h]; decide
 clear P14 P15 G4 G5 L4 h t4 t5 l5
 rintro ⟨⟨en,fs,ls,sd,pm⟩,u⟩ ⟨G4,P16,hlb,L4⟩
 dsimp only at G4 P16 hlb L4 ⊢
 subst hlb
 obtain ⟨t4,l4,rfl⟩:=gt_cons G4
 refine ⟨⟨⟨t4,l4,rfl⟩,⟨rfl,rfl⟩,rfl,rfl⟩,fun h=>?_,fun h=>⟨rfl,bad _ (P16.trans (thn_no (nx_no fun x=>h x)))⟩⟩
 have P17:parseTk ts = k17 ⟨en,fs,[],sd,pm⟩ l4:=P16.trans (thn_ok (nx_ok h (by decide)))
 have G5:GoodT l4:=gt_tail G4 (by have:t4.k = 1:=h.1; rw [this]; decide)
 obtain ⟨t5,l5,rfl⟩:=gt_cons G5
 refine ⟨⟨⟨⟨t5,l5,rfl⟩,gt_intIn G5,rfl,rfl⟩,fun h=>⟨⟨⟨en,fs,[],sd,numV t5.s⟩,l5⟩,rfl,gt_tail G5 ?_,P17.trans (thn_ok (num_okT h)),rfl,by simp only [List.length_cons] at L4 ⊢; omega⟩,fun h=>⟨rfl,bad _ (P17.trans (thn_no (num_no h)))⟩⟩,?_⟩
 ·have h:t5.k = 2:=h
  rw [h]; decide
 clear P16 P17 G4 G5 L4 h t4 t5 l5
 rintro ⟨⟨en,fs,ls,sd,pm⟩,u⟩ ⟨G4,P18,hlb,L4⟩
 dsimp only at G4 P18 hlb L4 ⊢
 subst hlb
 obtain ⟨t4,l4,rfl⟩:=gt_cons G4
 have stop:isAtB (t4 :: l4) = false→parseTk ts = k21 ⟨en,fs,[],sd,pm⟩ (t4 :: l4):=fun hc=>by rw [P18]; unfold k18; rw [hc]; rfl
 refine ⟨⟨len_tok _ _,_,take_k,fun c1=>⟨len_tok _ _,_,take_s,fun cs=>?_,fun cs=>⟨⟨⟨en,fs,[],sd,pm⟩,t4 :: l4⟩,rfl,G4,stop (at_no2 cs)⟩⟩,fun c1=>⟨⟨⟨en,fs,[],sd,pm⟩,t4 :: l4⟩,rfl,G4,stop (at_no1 c1)⟩⟩,?_⟩
 ·have P20:parseTk ts = k20 ⟨en,fs,[],sd,pm⟩ l4:=by rw [P18]; unfold k18; rw [at_yes c1 cs]; rfl
  have G5:GoodT l4:=gt_tail G4 (by have:=eq_of_beq c1; rw [this]; decide)
  clear stop
  obtain ⟨q1,q2,q3⟩:=lab_asked G5
  refine ⟨by omega,⟨len_tok1 _ _,Nat.le_refl _⟩,⟨q1,q2,q3,⟨[],rfl⟩,rfl,Nat.zero_le _,rfl,rfl⟩,fun h=>?_,fun h=>⟨rfl,bad _ (P20.trans (thn_no (lab_bad0 G5 h).1))⟩,fun h=>⟨rfl,bad _ (P20.trans (thn_no (lab_bad1 G5 h).1))⟩,fun h=>⟨rfl,bad _ (P20.trans (thn_no (lab_bad2 G5 h).1))⟩⟩
  obtain ⟨a,b,c,l5,rfl,ha,hb,hc,G6⟩:=lab_good G5 h
  refine ⟨⟨⟨⟨en,fs,[⟨a.s,numV b.s,numV c.s⟩],sd,pm⟩,l5⟩,rfl,G6,P20.trans (thn_ok (lab_ok ha hb hc)),by simp only [List.length_cons,List.length_nil] at L4 ⊢; omega⟩,?_⟩
  clear P20 P18 q1 q2 q3 G5 G4 G6 h L4 ha hb hc a b c l5
  rintro ⟨⟨en,fs,ls,sd,pm⟩,u⟩ ⟨G4,P4,L4⟩
  dsimp only at G4 P4 L4 ⊢
  obtain ⟨t4,l4,rfl⟩:=gt_cons G4
  have hn:(lbsL ls).length = ls.length:=List.length_map _
  have stop:isCm (t4 :: l4) = false→parseTk ts = k21 ⟨en,fs,ls,sd,pm⟩ (t4 :: l4):=fun hc=>P4.trans (thn_ok (moreL_end hc))
  refine ⟨len_tok _ _,_,take_k,fun c5=>⟨len_tok _ _,_,take_s,fun cs=>?_,fun cs=>⟨⟨⟨en,fs,ls,sd,pm⟩,t4 :: l4⟩,rfl,G4,stop (cm_no2 cs)⟩⟩,fun c5=>⟨⟨⟨en,fs,ls,sd,pm⟩,t4 :: l4⟩,rfl,G4,stop (cm_no1 c5)⟩⟩
  have hcm:isCm [t4] = true:=cm_yes c5 cs
  have G5:GoodT l4:=gt_tail G4 (by have:=eq_of_beq c5; rw [this]; decide)
  obtain ⟨q1,q2,q3⟩:=lab_asked G5
  refine ⟨by omega,⟨len_tok1 _ _,Nat.le_refl _⟩,⟨q1,q2,q3,⟨ls,rfl⟩,hn.symm,by simp only [List.length_cons] at L4; omega,rfl,rfl⟩,fun h=>?_,fun h=>⟨rfl,bad _ (P4.trans (thn_no ((lab_bad0 G5 h).2 _ _ hcm)))⟩,fun h=>⟨rfl,bad _ (P4.trans (thn_no ((lab_bad1 G5 h).2 _ _ hcm)))⟩,fun h=>⟨rfl,bad _ (P4.trans (thn_no ((lab_bad2 G5 h).2 _ _ hcm)))⟩⟩
  obtain ⟨a,b,c,l5,rfl,ha,hb,hc,G6⟩:=lab_good G5 h
  refine ⟨⟨⟨en,fs,ls ++ [⟨a.s,numV b.s,numV c.s⟩],sd,pm⟩,l5⟩,?_,⟨G6,P4.trans (kMl_ok hcm ha hb hc),by simp only [List.length_cons,List.length_append,List.length_nil] at L4 ⊢; omega⟩,by simp only [List.length_cons]; omega⟩
  simp only [List.map_append,List.length_append,hn]; rfl
 clear P18 G4 L4 stop t4 l4
 rintro ⟨⟨en,fs,ls,sd,pm⟩,u⟩ ⟨G4,P21⟩
 dsimp only at G4 P21 ⊢
 obtain ⟨t4,l4,rfl⟩:=gt_cons G4
 refine ⟨⟨⟨t4,l4,rfl⟩,rfl,rfl⟩,fun h=>?_,fun h=>⟨rfl,bad _ (P21.trans (thn_no (nx_no fun x=>h x)))⟩⟩
 have P:parseTk ts = .ok ⟨en,fs,ls,sd,pm⟩:=P21.trans (by
  have h':t4.k = 6∧everyB t4.s = true:=h
  unfold k21; exact thn_ok (by rw [nx,if_pos h']))
 refine ⟨_,run46 ⟨en,fs,ls,sd,pm⟩,fun hb=>?_,fun hb=>?_⟩
 ·rw [P]
  unfold resP
  simp only [hb,if_true]
  exact lax_r ⟨en,fs,ls,sd,pm⟩
 ·rw [P]
  unfold resP
  simp only [hb,if_false,Bool.false_eq_true]
  exact lax_z _ _
structure RS where
 ts:List Tk
 bad:Bool
def wr64 (n:Int):Int:=IntKind.wrap .i64 n
def digV (s:List UInt8):Int:=s.foldl (fun n c=>wr64 (wr64 (wr64 (10 * n) + c.toNat) - 48)) 0
def keptTake (k:Int) (tx:List UInt8) (x:RS):List UInt8 × RS:=
 if x.bad = true then ([],x) else
 match x.ts with
 | []=>([],⟨[],true⟩)
 | t :: l=>if t.k = k∧(tx = []∨t.s = tx) then (t.s,⟨l,false⟩) else ([],⟨t :: l,true⟩)
/-! once wrong, nothing goes on -/
def NumT (ts:List Tk):Prop:=∀ t ∈ ts,t.k = 2→digV t.s = numV t.s
theorem take_at {t:Tk} {l:List Tk} (h:isAtB (t :: l) = true):(keptTake 1 [97,116] ⟨t :: l,false⟩) = ([97,116],⟨l,false⟩)∧t.k = 1:=by
 simp only [isAtB,Bool.and_eq_true,decide_eq_true_eq] at h
 have hs:t.s = [97,116]:=by simpa using h.2
 unfold keptTake
 simp only [Bool.false_eq_true,if_false]
 rw [if_pos ⟨h.1,.inr hs⟩,hs]
 exact ⟨rfl,h.1⟩
/-! more rounds than tokens change nothing -/
def rb (x:RS):List AV:=[.sl 3 (toksL x.ts) .no,.bool x.bad]
def q4 (b0:List AV) (x:RS) (b2 b3:List AV) (lv:List (Nat × TypeId)):St:=⟨[some b0,some (rb x),none,some b2,some b3],lv⟩
def shortR (x:RS):Prop:=∀ t ∈ x.ts,t.s.length≤maxI
/-! the continuations of the reader -/
def g12:TCfg:={ ps:=[7],A:=nAn,dr:=99 }
/-! texts of tokens stay short -/
def cvT (t:Lx.L8.TkX):Tk:=⟨t.kind,t.text,t.at_⟩
def cvP (p:Lx.L8.PbX):Pb:=⟨p.at_,p.code⟩
def lexT (bs:List UInt8):List Tk:=if bs.length≤16384 then (Lx.L8.toksX bs).map cvT else []
def lexP (bs:List UInt8):List Pb:=if bs.length≤16384 then (Lx.L8.probsL bs).map cvP else []
def lexE (bs:List UInt8):Int:=if bs.length≤16384 then 0 else 2
theorem s36_at (bs:List UInt8):Lx.s36 [bytesA bs] = some (s36v (lexT bs) (lexP bs) (lexE bs)):=by
 show (if 1 = 1 then Lx.onBytes (bytesL bs) fun bs=>some (Lx.r12 bs) else none) = _
 rw [if_pos rfl]
 unfold Lx.onBytes
 rw [unBytes_mk]
 show some (Lx.r12 bs) = _
 unfold Lx.r12 s36v lexT lexP lexE
 by_cases h:bs.length≤16384
 ·simp only [if_pos h]
  have e1:toksL ((Lx.L8.toksX bs).map cvT) = (Lx.L8.toksX bs).map Lx.L8.tokA:=by
   show List.map _ (List.map _ _) = _; rw [List.map_map]; rfl
  have e2:pbsL ((Lx.L8.probsL bs).map cvP) = (Lx.L8.probsL bs).map Lx.L8.pbX:=by
   show List.map _ (List.map _ _) = _; rw [List.map_map]; rfl
  rw [e1,e2]
  rfl
 ·simp only [if_neg h]
  rfl
theorem dig_eq (c:UInt8):Lx.digitB c = digitB c:=by
 unfold Lx.digitB digitB
 by_cases h1:48≤c.toNat <;> by_cases h2:c.toNat≤57 <;> simp [h1,h2]
structure From (n:Nat) (t:Lx.L8.TkX):Prop where
 out:∃ l,t.kind = (Lx.L8.piece l).1∧t.text = Lx.L8.txtOf l∧(Lx.L8.piece l).2.2 = 0∧l.length≤n
theorem from_scan:∀ (n:Nat) (l:List UInt8) (a:Nat) (adj:Bool),(∀ t ∈ (Lx.L8.scanF n l a adj).1,From l.length t)∧(Lx.L8.scanF n l a adj).1.length≤l.length
 | 0,l,a,adj=>⟨fun t ht=>(by cases ht),Nat.zero_le _⟩
 | n + 1,[],a,adj=>⟨fun t ht=>(by cases ht),Nat.zero_le _⟩
 | n + 1,c :: t,a,adj=>by
  obtain ⟨h1,h2⟩:=from_scan n ((c :: t).drop (Lx.L8.piece (c :: t)).2.1) (a + (Lx.L8.piece (c :: t)).2.1) (Lx.L8.adjOf (c :: t))
  have hp:=Lx.L8.piece_pos c t
  have hl:((c :: t).drop (Lx.L8.piece (c :: t)).2.1).length + 1≤(c :: t).length:=by
   rw [List.length_drop]; simp only [List.length_cons]; omega
  simp only [Lx.L8.scanF]
  refine ⟨fun u hu=>?_,?_⟩
  ·rcases List.mem_append.1 hu with hu | hu
   ·unfold Lx.L8.tkOf at hu
    split at hu
    ·rename_i hc
     simp only [List.mem_cons,List.not_mem_nil,or_false] at hu
     subst hu
     exact ⟨c :: t,rfl,rfl,hc.2.1,Nat.le_refl _⟩
    ·cases hu
   ·obtain ⟨l',e1,e2,e3,e4⟩:=(h1 u hu).out
    exact ⟨l',e1,e2,e3,by omega⟩
  ·rw [List.length_append]
   have:(Lx.L8.tkOf (c :: t) a).length≤1:=by
    unfold Lx.L8.tkOf; split <;> simp
   omega
theorem take_tw (p:UInt8→Bool):∀ (c:UInt8) (t:List UInt8),(c :: t).take (1 + (t.takeWhile p).length) = c :: t.takeWhile p:=fun c t=>by
 rw [Nat.add_comm,List.take_succ_cons]
 congr 1
 exact (List.prefix_iff_eq_take.1 (List.takeWhile_prefix p)).symm
theorem int_txt {l:List UInt8} (h:(Lx.L8.piece l).1 = 2):∃ c t,l = c :: t∧Lx.L8.txtOf l = c :: t.takeWhile Lx.digitB∧Lx.digitB c = true∧((Lx.L8.piece l).2.2 = 0→Lx.L8.valX (c :: t.takeWhile Lx.digitB)≤1152921504606846976):=by
 cases l with
 | nil=>simp [Lx.L8.piece] at h
 | cons c t =>
  have hd:Lx.digitB c = true∧(Lx.L8.piece (c :: t)).2.1 = 1 + (t.takeWhile Lx.digitB).length∧(Lx.L8.piece (c :: t)).2.2 = Lx.L8.intErr ((c :: t).take (1 + (t.takeWhile Lx.digitB).length)):=by
   simp only [Lx.L8.piece] at h ⊢
   repeat' split at h
   all_goals first
    | (exfalso; revert h; simp; done)
    | simp_all
  refine ⟨c,t,rfl,?_,hd.1,fun h0=>?_⟩
  ·unfold Lx.L8.txtOf
   rw [if_neg (by rw [h]; decide),hd.2.1,take_tw]
  ·rw [hd.2.2,take_tw] at h0
   unfold Lx.L8.intErr at h0
   split at h0
   ·cases h0
   ·rename_i h1
    have:(2:Nat) ^ 60 = 1152921504606846976:=by decide
    omega
theorem tw_all (p:UInt8→Bool):∀ l:List UInt8,(l.takeWhile p).all p = true
 | []=>rfl
 | c :: l=>by
  rw [List.takeWhile_cons]
  split
  ·rename_i h; rw [List.all_cons,h,tw_all p l]; rfl
  ·rfl
theorem wr_in {n:Int} (h1:-9223372036854775808≤n) (h2:n < 9223372036854775808):wr64 n = n:=by
 unfold wr64
 simp only [IntKind.wrap,IntKind.bits,IntKind.signed]
 simp
 omega
theorem dig_fold:∀ (l:List UInt8) (n:Nat),l.all digitB = true→valF n l≤1152921504606846976→l.foldl (fun (n:Int) c=>wr64 (wr64 (wr64 (10 * n) + c.toNat) - 48)) (n:Int) = (valF n l:Int)
 | [],n,_,_=>rfl
 | c :: l,n,hd,hv=>by
  simp only [List.all_cons,Bool.and_eq_true,digitB_iff] at hd
  have e:valF n (c :: l) = valF (10 * n + (c.toNat - 48)) l:=rfl
  rw [e] at hv ⊢
  have hge:=valF_ge l (10 * n + (c.toNat - 48))
  rw [List.foldl_cons,wr_in (n:=10 * (n:Int)) (by omega) (by omega),wr_in (n:=10 * (n:Int) + c.toNat) (by omega) (by omega),wr_in (by omega) (by omega),show 10 * (n:Int) + c.toNat - 48 = ((10 * n + (c.toNat - 48):Nat):Int) by omega]
  exact dig_fold l _ hd.2 hv
theorem digV_val {s:List UInt8} (h:s.all digitB = true) (hv:valL s≤1152921504606846976):digV s = numV s:=by
 have:=dig_fold s 0 h (by rw [← valL_eq]; exact hv)
 unfold digV numV
 rw [if_pos (by omega)]
 exact this
theorem txt_len (l:List UInt8):(Lx.L8.txtOf l).length≤l.length:=by
 unfold Lx.L8.txtOf
 split
 ·simp only [List.length_take,List.length_drop]; omega
 ·simp only [List.length_take]; omega
theorem lex_good {bs:List UInt8} (h:lexE bs = 0):GoodT (lexT bs)∧NumT (lexT bs)∧shortR ⟨lexT bs,false⟩:=by
 have hl:bs.length≤16384:=by
  unfold lexE at h
  split at h
  ·assumption
  ·cases h
 have big:maxI = 9223372036854775807:=rfl
 obtain ⟨h1,h2⟩:=from_scan bs.length bs 0 false
 have hT:lexT bs = (Lx.L8.scanF bs.length bs 0 false).1.map cvT ++ [⟨6,[],bs.length⟩]:=by
  unfold lexT
  rw [if_pos hl]
  unfold Lx.L8.toksX Lx.L8.scan
  rw [List.map_append]; rfl
 have hint:∀ t ∈ lexT bs,t.k = 2→t.s.all digitB = true∧t.s ≠ []∧valL t.s≤1152921504606846976:=fun t ht hk=>by
  rw [hT] at ht
  rcases List.mem_append.1 ht with ht | ht
  ·obtain ⟨u,hu,rfl⟩:=List.mem_map.1 ht
   obtain ⟨l,e1,e2,e3,_⟩:=(h1 u hu).out
   have hk':(Lx.L8.piece l).1 = 2:=by rw [← e1]; exact hk
   obtain ⟨c,r,rfl,e4,e5,e6⟩:=int_txt hk'
   have e7:=e6 e3
   have:(cvT u).s = c :: r.takeWhile Lx.digitB:=by show u.text = _; rw [e2,e4]
   rw [this]
   refine ⟨?_,by simp,e7⟩
   have hdig:(fun c=>digitB c) = Lx.digitB:=funext fun c=>(dig_eq c).symm
   have:(c :: r.takeWhile Lx.digitB).all Lx.digitB = true:=by rw [List.all_cons,e5,tw_all]; rfl
   rw [← hdig] at this
   exact this
  ·simp only [List.mem_cons,List.not_mem_nil,or_false] at ht
   subst ht; cases hk
 have hsh:∀ t ∈ lexT bs,t.s.length≤16384:=fun t ht=>by
  rw [hT] at ht
  rcases List.mem_append.1 ht with ht | ht
  ·obtain ⟨u,hu,rfl⟩:=List.mem_map.1 ht
   obtain ⟨l,e1,e2,e3,e4⟩:=(h1 u hu).out
   have:=txt_len l
   show u.text.length≤_
   rw [e2]; omega
  ·simp only [List.mem_cons,List.not_mem_nil,or_false] at ht
   subst ht; simp
 refine ⟨⟨⟨_,_,hT,rfl⟩,fun t ht hk=>⟨?_,by have:=hsh t ht; omega⟩,?_⟩,fun t ht hk=>digV_val (hint t ht hk).1 (hint t ht hk).2.2,fun t ht=>by have:=hsh t ht; omega⟩
 ·obtain ⟨a1,a2,_⟩:=hint t ht hk
  unfold intB
  rw [a1,decide_eq_true a2]; rfl
 ·rw [hT,List.length_append,List.length_map]
  simp only [List.length_cons,List.length_nil]
  omega
def s49:Spec:=fun args=>match args with
 | [.sl a xs .no,.sl b ys .no]=>match unL unS xs,unL unS ys with
  | some l,some k=>if a = 1∧b = 1∧l.length≤2000000 then some (.bool (decide (l = k)),[]) else none
  | _,_=>none
 | _=>none
def s22:Spec:=fun args=>match args with
 | [.sl a xs .no,.sl b ys .no]=>match unL unLb xs,unL unLb ys with
  | some l,some k=>if a = 3∧b = 3∧l.length≤2000000 then some (.bool (decide (l = k)),[]) else none
  | _,_=>none
 | _=>none
def s13:Spec:=fun args=>match args with
 | [a,b]=>match unRqN a,unRqN b with
  | some x,some y=>if x.feats.length≤2000000∧x.labels.length≤2000000 then some (.bool (decide (x = y)),[]) else none
  | _,_=>none
 | _=>none
def sameA (sz:Nat) (xs ys:List AV) (n:Nat) (I:Nat→Prop):Anns:=⟨fun q=>if q = 4 then some { α:=Nat,slots:=[0,1,5],nb:=0,vals:=fun i=>[.sl sz xs .no,.sl sz ys .no,.int .i64 i],sS:=fun _=>⟨[],[]⟩,I:=I,μ:=fun i=>n - i } else none,nA⟩
def a49 (l k:List (List UInt8)):Anns:=sameA 1 (strsL l) (strsL k) l.length fun i=>l.length = k.length∧i≤l.length∧l.take i = k.take i
def a22 (l k:List Lb):Anns:=sameA 3 (lbsL l) (lbsL k) l.length fun i=>l.length = k.length∧i≤l.length∧l.take i = k.take i
def XS3:Shapes:=fun f=>match f with
 | 10 | 13 | 16 | 22 | 24 | 30 | 33 | 49=>some shB
 | 14 | 15 | 54=>some shS
 | _=>none
def s15:Spec:=fun args=>match args with
 | [a]=>match unRqN a with
  | some x=>if keysOk x.labels = true then some (.str (fmtL x),[]) else none
  | none=>none
 | _=>none
/-! Decimal -/
def preD (n:Nat):List UInt8:=if n < 10 then [] else Lib.decDigits (n / 10)
/-! Format -/
structure F15 where
 i:Nat
 t:List UInt8
def hd15 (r:Rq) (i:Nat):List UInt8:=[111,102,32] ++ r.entity ++ [32,116,97,107,101,32] ++ Lib.join (r.feats.take i) [44,32]
def a15 (r:Rq):Anns:=⟨fun k=>match k with
 | 5=>some { α:=F15,slots:=[1,3,4],nb:=1,vals:=fun x=>[.ptr 0 0,.str x.t,.int .i64 x.i],sS:=fun _=>stR r,I:=fun x=>1≤x.i∧x.i≤r.feats.length∧x.t = hd15 r x.i,μ:=fun x=>r.feats.length - x.i }
 | 10=>some { α:=F15,slots:=[1,3,5],nb:=1,vals:=fun x=>[.ptr 0 0,.str x.t,.int .i64 x.i],sS:=fun _=>stR r,I:=fun x=>x.i≤r.labels.length∧x.t = tO r x.i,μ:=fun x=>r.labels.length - x.i }
 | 1000015=>some { α:=F15,slots:=[1,3,5],nb:=1,vals:=fun x=>[.ptr 0 0,.str x.t,.int .i64 x.i],sS:=fun _=>stR r,I:=fun x=>x.i < r.labels.length∧x.t = tO r x.i ++ (if x.i = 0 then [32,97,116,32] else [44,32]),μ:=fun _=>0,rel:=fun T x=>ValsAre [T.getD 5 (.tup [])] [.int .i64 x.i] }
 | _=>none,nA⟩
def t13:List (FuncId × Spec):=[(49,s49),(22,s22)]
theorem w49 (m:Int) (l k:List (List UInt8)) (r:AV):(pureW PQ (GQ m) XS3 (tbl []) (itbl []) (a49 l k) [] 49 [.sl 1 (strsL l) .no,.sl 1 (strsL k) .no] (r,[])) =
((((↑(strsL l).length:Int) != (↑(strsL k).length:Int)) = true→RetIs (AV.bool false) [] (r,[]))∧(((↑(strsL l).length:Int) != (↑(strsL k).length:Int)) = false→(∃ (y:Nat),ValsAre [AV.sl 1 (strsL l) Own.no,AV.sl 1 (strsL k) Own.no,I6 0] [AV.sl 1 (strsL l) Own.no,AV.sl 1 (strsL k) Own.no,I6 (↑y:Int)]∧StIs { boxes:=[],live:=[] } { boxes:=[],live:=[] }∧(l.length = k.length∧y≤l.length∧List.take y l = List.take y k)∧True)∧∀ (x:Nat),l.length = k.length∧x≤l.length∧List.take x l = List.take x k→(decide ((↑x:Int) < (↑(strsL l).length:Int)) = true→((0:Int)≤(↑x:Int)∧(↑x:Int) < (↑(strsL l).length:Int))∧∃ (s:List UInt8),takeAt PQ 9 (strsL l) (↑x:Int).toNat 0 = some (AV.str s)∧((0:Int)≤(↑x:Int)∧(↑x:Int) < (↑(strsL k).length:Int))∧∃ (s_1:List UInt8),takeAt PQ 9 (strsL k) (↑x:Int).toNat 0 = some (AV.str s_1)∧((!s == s_1) = true→RetIs (AV.bool false) [] (r,[]))∧((!s == s_1) = false→∃ (y:Nat),ValsAre [AV.sl 1 (strsL l) Own.no,AV.sl 1 (strsL k) Own.no,I6 (IntKind.i64.wrap ((↑x:Int) + (1:Int)))] [AV.sl 1 (strsL l) Own.no,AV.sl 1 (strsL k) Own.no,I6 (↑y:Int)]∧StIs { boxes:=[],live:=[] } { boxes:=[],live:=[] }∧(l.length = k.length∧y≤l.length∧List.take y l = List.take y k)∧l.length - y < l.length - x))∧(decide ((↑x:Int) < (↑(strsL l).length:Int)) = false→RetIs (AV.bool true) [] (r,[])))):=by kernel_rfl
theorem w22 (m:Int) (l k:List Lb) (r:AV):(pureW PQ (GQ m) XS3 (tbl []) (itbl []) (a22 l k) [] 22 [.sl 3 (lbsL l) .no,.sl 3 (lbsL k) .no] (r,[])) =
((((↑(lbsL l).length:Int) != (↑(lbsL k).length:Int)) = true→RetIs (AV.bool false) [] (r,[]))∧(((↑(lbsL l).length:Int) != (↑(lbsL k).length:Int)) = false→(∃ (y:Nat),ValsAre [AV.sl 3 (lbsL l) Own.no,AV.sl 3 (lbsL k) Own.no,I6 0] [AV.sl 3 (lbsL l) Own.no,AV.sl 3 (lbsL k) Own.no,I6 (↑y:Int)]∧StIs { boxes:=[],live:=[] } { boxes:=[],live:=[] }∧(l.length = k.length∧y≤l.length∧List.take y l = List.take y k)∧True)∧∀ (x:Nat),l.length = k.length∧x≤l.length∧List.take x l = List.take x k→(decide ((↑x:Int) < (↑(lbsL l).length:Int)) = true→((0:Int)≤(↑x:Int)∧(↑x:Int) < (↑(lbsL l).length:Int))∧∃ (s:List UInt8),∃ (n:Int),∃ (n_1:Int),takeAt PQ 65 (lbsL l) (↑x:Int).toNat 0 = some (AV.agg [AV.str s,I6 n,I6 n_1])∧((0:Int)≤(↑x:Int)∧(↑x:Int) < (↑(lbsL k).length:Int))∧∃ (s_1:List UInt8),∃ (n_2:Int),∃ (n_3:Int),takeAt PQ 65 (lbsL k) (↑x:Int).toNat 0 = some (AV.agg [AV.str s_1,I6 n_2,I6 n_3])∧((!(s == s_1 && (n == n_2 && (n_1 == n_3 && true)))) = true→RetIs (AV.bool false) [] (r,[]))∧((!(s == s_1 && (n == n_2 && (n_1 == n_3 && true)))) = false→∃ (y:Nat),ValsAre [AV.sl 3 (lbsL l) Own.no,AV.sl 3 (lbsL k) Own.no,I6 (IntKind.i64.wrap ((↑x:Int) + (1:Int)))] [AV.sl 3 (lbsL l) Own.no,AV.sl 3 (lbsL k) Own.no,I6 (↑y:Int)]∧StIs { boxes:=[],live:=[] } { boxes:=[],live:=[] }∧(l.length = k.length∧y≤l.length∧List.take y l = List.take y k)∧l.length - y < l.length - x))∧(decide ((↑x:Int) < (↑(lbsL l).length:Int)) = false→RetIs (AV.bool true) [] (r,[])))):=by kernel_rfl
theorem w13 (m:Int) (x y:Rq) (r:AV):(pureW PQ (GQ m) XS3 (tbl t13) (itbl []) nAn [] 13 [rqA x,rqA y] (r,[])) =
(∃ (b:Bool),CallIs (tbl [(49,s49),(22,s22)] 49 [AV.sl 1 (strsL x.feats) Own.no,AV.sl 1 (strsL y.feats) Own.no]) (AV.bool b) []∧(b = true→∃ (b:Bool),CallIs (tbl [(49,s49),(22,s22)] 22 [AV.sl 3 (lbsL x.labels) Own.no,AV.sl 3 (lbsL y.labels) Own.no]) (AV.bool b) []∧(b = true→((x.entity == y.entity) = true→((x.seed == y.seed) = true→((x.permille == y.permille) = true→RetIs (AV.bool true) [] (r,[]))∧((x.permille == y.permille) = false→RetIs (AV.bool false) [] (r,[])))∧((x.seed == y.seed) = false→RetIs (AV.bool false) [] (r,[])))∧((x.entity == y.entity) = false→RetIs (AV.bool false) [] (r,[])))∧(b = false→RetIs (AV.bool false) [] (r,[])))∧(b = false→∃ (b:Bool),CallIs (tbl [(49,s49),(22,s22)] 22 [AV.sl 3 (lbsL x.labels) Own.no,AV.sl 3 (lbsL y.labels) Own.no]) (AV.bool b) []∧(b = true→RetIs (AV.bool false) [] (r,[]))∧(b = false→RetIs (AV.bool false) [] (r,[])))):=by kernel_rfl
section
variable {α : Type} {l k : List α} {i : Nat}
theorem eqL_stop (hl:l.length = k.length) (hi:i < l.length) (h:l[i] ≠ k[i]'(by omega)):l ≠ k:=by
 rintro rfl; exact h rfl
theorem eqL_step (hl:l.length = k.length) (hi:i < l.length) (h:l.take i = k.take i) (he:l[i] = k[i]'(by omega)):l.take (i + 1) = k.take (i + 1):=by
 rw [List.take_succ_eq_append_getElem hi,List.take_succ_eq_append_getElem (by omega),h,he]
theorem eqL_end (hl:l.length = k.length) (hi:¬ i < l.length) (h:l.take i = k.take i):l = k:=by
 rwa [List.take_of_length_le (by omega),List.take_of_length_le (by omega)] at h
end
theorem p49 (m:Int) (l k:List (List UInt8)) (hl:l.length≤2000000):PureOk PQ (GQ m) XS3 (tbl []) (itbl []) (a49 l k) [] 49 [.sl 1 (strsL l) .no,.sl 1 (strsL k) .no] (.bool (decide (l = k)),[]):=by
  constructor
  rw [w49]; unfold I6
  have hn:∀ l:List (List UInt8),(strsL l).length = l.length:=fun l=>List.length_map _
  simp only [hn]
  refine ⟨fun h=>⟨?_⟩,fun h=>?_⟩
  · have h' : (l.length : Int) ≠ k.length := by simpa using h
    rw [decide_eq_false (by rintro rfl; exact h' rfl)]
  · have e : l.length = k.length := by have : (l.length : Int) = k.length := by simpa using h
                                       omega
    refine ⟨⟨0,⟨rfl⟩,⟨rfl⟩,⟨e,Nat.zero_le _,rfl⟩,trivial⟩,fun i hi=>⟨fun lt=>?_,fun ge=>⟨?_⟩⟩⟩
    · have lt := of_decide_eq_true lt
      have hil:i < l.length:=by omega
      refine ⟨⟨by omega,by omega⟩,_,by rw [Int.toNat_natCast]; exact take_str hil,⟨by omega,by omega⟩,_,by rw [Int.toNat_natCast]; exact take_str (by omega),fun h=>⟨?_⟩,fun h=>⟨i + 1,⟨by rw [wrapI (by omega)]⟩,⟨rfl⟩,⟨e,hil,eqL_step e hil hi.2.2 (by simpa using h)⟩,by omega⟩⟩
      rw [decide_eq_false (eqL_stop e hil (by simpa using h))]
    · have ge := of_decide_eq_false ge
      rw [decide_eq_true (eqL_end e (by omega) hi.2.2)]
theorem p22 (m:Int) (l k:List Lb) (hl:l.length≤2000000):PureOk PQ (GQ m) XS3 (tbl []) (itbl []) (a22 l k) [] 22 [.sl 3 (lbsL l) .no,.sl 3 (lbsL k) .no] (.bool (decide (l = k)),[]):=by
  constructor
  rw [w22]; unfold I6
  have hn:∀ l:List Lb,(lbsL l).length = l.length:=fun l=>List.length_map _
  simp only [hn]
  refine ⟨fun h=>⟨?_⟩,fun h=>?_⟩
  · have h' : (l.length : Int) ≠ k.length := by simpa using h
    rw [decide_eq_false (by rintro rfl; exact h' rfl)]
  · have e : l.length = k.length := by have : (l.length : Int) = k.length := by simpa using h
                                       omega
    refine ⟨⟨0,⟨rfl⟩,⟨rfl⟩,⟨e,Nat.zero_le _,rfl⟩,trivial⟩,fun i hi=>⟨fun lt=>?_,fun ge=>⟨?_⟩⟩⟩
    · have lt := of_decide_eq_true lt
      have hil:i < l.length:=by omega
      have hik:i < k.length:=by omega
      refine ⟨⟨by omega,by omega⟩,_,_,_,by rw [Int.toNat_natCast]; exact take_lb hil,⟨by omega,by omega⟩,_,_,_,by rw [Int.toNat_natCast]; exact take_lb hik,fun h=>⟨?_⟩,fun h=>⟨i + 1,⟨by rw [wrapI (by omega)]⟩,⟨rfl⟩,⟨e,hil,eqL_step e hil hi.2.2 ?_⟩,by omega⟩⟩
      · rw [decide_eq_false (eqL_stop e hil ?_)]
        intro h'
        rw [h'] at h
        simp at h
      · have h' : l[i].key = k[i].key ∧ l[i].event = k[i].event ∧ l[i].know = k[i].know := by simpa using h
        have:∀ a b:Lb,a.key = b.key→a.event = b.event→a.know = b.know→a = b:=by rintro ⟨⟩ ⟨⟩ rfl rfl rfl; rfl
        exact this _ _ h'.1 h'.2.1 h'.2.2
    · have ge := of_decide_eq_false ge
      rw [decide_eq_true (eqL_end e (by omega) hi.2.2)]
theorem o49 (m:Int):SpecOk PQ (GQ m) 49 s49:=spec_of (X:=XS3) (m:=[]) mixedQ tbl_nil itbl_nil fun args r h=>by
 unfold s49 at h
 split at h
 case h_2=>cases h
 split at h
 case h_2=>cases h
 rename_i h1 h2
 split at h
 case isFalse=>cases h
 rename_i hc
 injection h with h; subst h
 rw [unL_inv unS_inv h1,unL_inv unS_inv h2,hc.1,hc.2.1]
 exact ⟨_,p49 m _ _ hc.2.2⟩
theorem o22 (m:Int):SpecOk PQ (GQ m) 22 s22:=spec_of (X:=XS3) (m:=[]) mixedQ tbl_nil itbl_nil fun args r h=>by
 unfold s22 at h
 split at h
 case h_2=>cases h
 split at h
 case h_2=>cases h
 rename_i h1 h2
 split at h
 case isFalse=>cases h
 rename_i hc
 injection h with h; subst h
 rw [unL_inv unLb_inv h1,unL_inv unLb_inv h2,hc.1,hc.2.1]
 exact ⟨_,p22 m _ _ hc.2.2⟩
theorem run49 {l k:List (List UInt8)} (h:l.length≤2000000):s49 [.sl 1 (strsL l) .no,.sl 1 (strsL k) .no] = some (.bool (decide (l = k)),[]):=by
 simp only [s49,unL_map unS_ok]
 rw [if_pos ⟨trivial,trivial,h⟩]
theorem run22 {l k:List Lb} (h:l.length≤2000000):s22 [.sl 3 (lbsL l) .no,.sl 3 (lbsL k) .no] = some (.bool (decide (l = k)),[]):=by
 simp only [s22,unL_map unLb_ok]
 rw [if_pos ⟨trivial,trivial,h⟩]
theorem p13 (m:Int) (x y:Rq) (h1:x.feats.length≤2000000) (h2:x.labels.length≤2000000):PureOk PQ (GQ m) XS3 (tbl t13) (itbl []) nAn [] 13 [rqA x,rqA y] (.bool (decide (x = y)),[]):=by
 constructor
 rw [w13]
 obtain ⟨en,fs,ls,sd,pm⟩:=x
 obtain ⟨en',fs',ls',sd',pm'⟩:=y
 have no:¬ (fs = fs'∧ls = ls'∧en = en'∧sd = sd'∧pm = pm')→∀ b:Bool,b = false→RetIs (.bool b) [] (.bool (decide ((⟨en,fs,ls,sd,pm⟩:Rq) = ⟨en',fs',ls',sd',pm'⟩)),[]):=fun h b hb=>by
  subst hb
  refine ⟨?_⟩
  rw [decide_eq_false]
  intro e
  injection e with e1 e2 e3 e4 e5
  exact h ⟨e2,e3,e1,e4,e5⟩
 refine ⟨_,⟨run49 h1⟩,fun b1=>⟨_,⟨run22 h2⟩,fun b2=>⟨fun b3=>⟨fun b4=>⟨fun b5=>⟨?_⟩,fun b5=>no (fun e=>by simp [e.2.2.2.2] at b5) _ rfl⟩,fun b4=>no (fun e=>by simp [e.2.2.2.1] at b4) _ rfl⟩,fun b3=>no (fun e=>by simp [e.2.2.1] at b3) _ rfl⟩,fun b2=>no (fun e=>of_decide_eq_false b2 e.2.1) _ rfl⟩,fun b1=>⟨_,⟨run22 h2⟩,fun b2=>no (fun e=>of_decide_eq_false b1 e.1) _ rfl,fun b2=>no (fun e=>of_decide_eq_false b1 e.1) _ rfl⟩⟩
 have e1:fs = fs':=of_decide_eq_true b1
 have e2:ls = ls':=of_decide_eq_true b2
 have e3:en = en':=eq_of_beq b3
 have e4:sd = sd':=eq_of_beq b4
 have e5:pm = pm':=eq_of_beq b5
 subst e1; subst e2; subst e3; subst e4; subst e5
 rw [decide_eq_true rfl]
theorem o13 (m:Int):SpecOk PQ (GQ m) 13 s13:=spec_of (X:=XS3) (m:=[]) mixedQ (tbl_cons (o49 m) (tbl_cons (o22 m) tbl_nil)) itbl_nil fun args r h=>by
 unfold s13 at h
 split at h
 case h_2=>cases h
 split at h
 case h_2=>cases h
 rename_i h1 h2
 split at h
 case isFalse=>cases h
 rename_i hc
 injection h with h; subst h
 rw [unRqN_inv _ _ h1,unRqN_inv _ _ h2]
 exact ⟨_,p13 m _ _ hc.1 hc.2⟩
theorem run13 {x y:Rq} (h1:x.feats.length≤2000000) (h2:x.labels.length≤2000000):s13 [rqA x,rqA y] = some (.bool (decide (x = y)),[]):=by
 simp only [s13,unRqN_ok]
 rw [if_pos ⟨h1,h2⟩]
/-! Decimal -/
theorem preD_step (n:Nat):Lib.decDigits n = preD n ++ [UInt8.ofNat (48 + n % 10)]:=by
 unfold preD
 by_cases h:n < 10
 ·rw [if_pos h,Lib.decDigits,dif_pos h,show n % 10 = n by omega]; rfl
 ·rw [if_neg h]
  conv=>lhs; rw [Lib.decDigits,dif_neg h]
theorem tick_iff {n:Int}:tickB n = true ↔ 0≤n∧n≤1099511627776:=by simp [tickB]
/-! Format -/
theorem tickIn {r:Rq} (h:formB r = true):1≤r.feats.length∧tickB r.seed = true∧tickB r.permille = true∧∀ x ∈ r.labels,tickB x.event = true∧tickB x.know = true:=by
 simp only [formB,headOk,Bool.and_eq_true,decide_eq_true_eq,List.all_eq_true] at h
 refine ⟨by omega,h.1.1.1.1.2,tick_iff.2 ⟨by omega,by omega⟩,fun x hx=>?_⟩
 have:=h.2 x hx
 simp only [lbOk,Bool.and_eq_true] at this
 exact ⟨this.1.2,this.2⟩
structure PRq where
 r:Rq
 a:Int
 c:Int
def prA (p:PRq):AV:=.tup [rqA p.r,.int .i64 p.a,.int .i64 p.c]
def shRq:Sh × Option TypeId:=(.tup [.agg [.str,.sl 1 .no,.sl 3 .no,.int .i64,.int .i64],.one (.int .i64),.one (.int .i64)],none)
def XT:Shapes:=fun f=>match f with
 | 11 | 12 | 28 | 29=>some shRq
 | 10 | 13 | 16 | 30=>some shB
 | 14 | 15=>some shS
 | 31 | 32=>some shLax
 | _=>none
def parseB (bs:List UInt8):AV:=resT (lexT bs) (lexP bs) (lexE bs)
def sParse:Spec:=fun args=>match args with
 | [.sl sz es .no]=>match unBytes es with
  | some bs=>if sz = 1 then some (parseB bs,[]) else none
  | none=>none
 | _=>none
theorem o11g (m:Int):SpecOk PQ (GQ m) 11 sParse:=tlax_of' mixedQ fun args r h=>by
 unfold sParse at h
 split at h
 case h_2=>cases h
 split at h
 case h_2=>cases h
 rename_i bs hb
 split at h
 case isFalse=>cases h
 rename_i hz
 injection h with h; subst h; subst hz
 rw [unBytes_some hb]
 have hR:=tbl_cons (Lx.o36' m) (tbl_cons (o46 m) tbl_nil)
 exact ⟨_,_,_,_,_,_,hR,itbl_nil,inlW_ok mixedQ hR itbl_nil (J1_ok m),p11 m Lx.s36 bs _ _ _ (s36_at bs) fun he _ _=>(lex_good he).1⟩
def prP (x:Except Int Rq):PRq:=
 match x with
 | .error a=>⟨zRq,a,90⟩
 | .ok r=>if formB r then ⟨r,0,0⟩ else ⟨zRq,0,240⟩
def prT (ts:List Tk) (pb:List Pb) (e:Int):PRq:=
 if e ≠ 0 then ⟨zRq,0,e⟩ else
 match pb with
 | p :: _=>⟨zRq,p.a,p.c⟩
 | []=>if ts = [] then ⟨zRq,0,90⟩ else prP (parseTk ts)
def prB (bs:List UInt8):PRq:=prT (lexT bs) (lexP bs) (lexE bs)
theorem res_prA (x:Except Int Rq):resP x = prA (prP x):=by
 unfold resP prP
 cases x with
 | error a=>rfl
 | ok r=>simp only; split <;> rfl
theorem parse_prT (ts:List Tk) (pb:List Pb) (e:Int):resT ts pb e = prA (prT ts pb e):=by
 unfold resT prT
 by_cases h:e ≠ 0
 ·rw [if_pos h,if_pos h]; rfl
 ·rw [if_neg h,if_neg h]
  cases pb with
  | cons p l=>rfl
  | nil =>
   simp only
   by_cases ht:ts = []
   ·rw [if_pos ht,if_pos ht]; rfl
   ·rw [if_neg ht,if_neg ht]; exact res_prA _
theorem parse_prA (bs:List UInt8):parseB bs = prA (prB bs):=parse_prT _ _ _
theorem prP_form (x:Except Int Rq):(prP x).r = zRq∨formB (prP x).r = true:=by
 unfold prP
 split
 ·exact .inl rfl
 ·split
  ·rename_i h; exact .inr h
  ·exact .inl rfl
theorem prB_form (bs:List UInt8):(prB bs).r = zRq∨formB (prB bs).r = true:=by
 unfold prB prT
 split
 ·exact .inl rfl
 ·split
  ·exact .inl rfl
  ·split
   ·exact .inl rfl
   ·exact prP_form _
theorem prB_few (bs:List UInt8):(prB bs).r.feats.length≤8∧(prB bs).r.labels.length≤256:=by
 rcases prB_form bs with h | h
 ·rw [h]; exact ⟨Nat.zero_le _,Nat.zero_le _⟩
 ·have F:=fmt_in h
  exact ⟨F.nf,F.nl⟩
theorem runP (bs:List UInt8):sParse [.sl 1 (bytesL bs) .no] = some (prA (prB bs),[]):=by
 unfold sParse
 simp only [unBytes_mk,parse_prA]
 rfl
def a3 (r:Rq):Anns:=⟨fun k=>match k with
 | 1000006=>some { α:=List UInt8,slots:=[3,5],nb:=1,vals:=fun x=>[.ptr 0 0,.sl 1 (bytesL x) .no],sS:=fun _=>stR r,I:=fun _=>True,μ:=fun _=>0 }
 | _=>none,nA⟩
def t3:List (FuncId × Spec):=[(10,s10),(11,sParse),(12,sParse),(13,s13),(14,s14),(15,s15),(16,sTrue)]
end Go.Abs
