/- Own texts, part 7. -/
import Derived.Test.YtpglogahncpnoaaPart6

namespace Go.Abs
open Go.Proofs
theorem w37 (m:Int) (l:List Int) (n:Int):(pureW PI (GI m) XA (tbl []) (itbl []) (a37 l n) [] 37 [.sl 1 (intsA l) .no,.int .i64 n] (.bool (decide (n ∈ l)),[])) =
((∃ (y:Nat),
    ValsAre [AV.sl ((1:Nat)) (intsA l) Own.no,AV.int IntKind.i64 n,AV.int IntKind.i64 (0:Int)]
        [AV.sl ((1:Nat)) (intsA l) Own.no,AV.int IntKind.i64 n,AV.int IntKind.i64 (↑y:Int)] ∧
      StIs { boxes:=[],live:=[] } { boxes:=[],live:=[] }∧(y≤l.length∧¬n ∈ List.take y l)∧True) ∧
  ∀ (x:Nat),
    x≤l.length∧¬n ∈ List.take x l →
      (decide ((↑x:Int) < (↑(intsA l).length:Int)) = true →
 ((0:Int)≤(↑x:Int)∧(↑x:Int) < (↑(intsA l).length:Int)) ∧
 ∃ (n_1:Int),
 takeAt PI ((3:Nat)) (intsA l) (↑x:Int).toNat ((0:Nat)) = some (AV.int IntKind.i64 n_1) ∧
 ((n_1 == n) = true→RetIs (AV.bool true) [] (AV.bool (decide (n ∈ l)),[])) ∧
 ((n_1 == n) = false →
 ∃ (y:Nat),
 ValsAre [AV.sl ((1:Nat)) (intsA l) Own.no,AV.int IntKind.i64 n,AV.int IntKind.i64 (IntKind.i64.wrap ((↑x:Int) + (1:Int)))]
 [AV.sl ((1:Nat)) (intsA l) Own.no,AV.int IntKind.i64 n,AV.int IntKind.i64 (↑y:Int)] ∧
 StIs { boxes:=[],live:=[] } { boxes:=[],live:=[] }∧(y≤l.length∧¬n ∈ List.take y l)∧l.length - y < l.length - x)) ∧
        (decide ((↑x:Int) < (↑(intsA l).length:Int)) = false→RetIs (AV.bool false) [] (AV.bool (decide (n ∈ l)),[]))):=by kernel_rfl
theorem w37z (m:Int) (n:Int):(pureW PI (GI m) XA (tbl []) (itbl []) (a37z n) [] 37 [.sl 0 [] .nil,.int .i64 n] (.bool false,[])) =
((∃ (_y : Unit),
  ValsAre [AV.sl ((0:Nat)) [] Own.nil,AV.int IntKind.i64 n,AV.int IntKind.i64 (0:Int)]
    [AV.sl ((0:Nat)) [] Own.nil,AV.int IntKind.i64 n,AV.int IntKind.i64 (0:Int)] ∧
   StIs { boxes:=[],live:=[] } { boxes:=[],live:=[] }∧True∧True) ∧
 ∀ (_x:Unit),True→(false = true→((0:Int)≤(0:Int)∧(0:Int) < (0:Int))∧False)∧(false = false→RetIs (AV.bool false) [] (AV.bool false,[]))):=by kernel_rfl
theorem w36f (m:Int) (r:List BxI) (t:List UInt8):(pureW PI (GI m) XA (tbl []) (itbl []) (a36 r t) [] 36 [.agg [.sl 3 (bxsL r) .no],.str t] (.tup [bxA (r.getD (lowB r t) default),.int .i64 (lowB r t),.bool true],[])) =
((∃ (y:Nat),
    ValsAre [AV.str t,AV.ptr ((0:Nat)) ((0:Nat)),AV.ptr ((1:Nat)) ((0:Nat)),AV.int IntKind.i64 (0:Int)]
        [AV.str t,AV.ptr ((0:Nat)) ((0:Nat)),AV.ptr ((1:Nat)) ((0:Nat)),AV.int IntKind.i64 (↑y:Int)] ∧
      StIs { boxes:=[some [AV.sl ((3:Nat)) (bxsL r) Own.no],some [AV.str [],AV.int IntKind.i64 (0:Int),AV.sl ((0:Nat)) [] Own.nil]],live:=[] }
 { boxes:=[some [AV.sl ((3:Nat)) (bxsL r) Own.no],some [AV.str [],AV.int IntKind.i64 (0:Int),AV.sl ((0:Nat)) [] Own.nil]],live:=[] } ∧
        y≤lowB r t∧True) ∧
  ∀ (x:Nat),
    x≤lowB r t →
      (decide ((↑x:Int) < (↑(bxsL r).length:Int)) = true →
 ((0:Int)≤(↑x:Int)∧(↑x:Int) < (↑(bxsL r).length:Int)) ∧
 ∃ (s:List UInt8),
 takeAt PI ((9:Nat)) (bxsL r) (↑x:Int).toNat ((0:Nat)) = some (AV.str s) ∧
 (Op.bytesLess s t = true →
 ∃ (y:Nat),
 ValsAre
 [AV.str t,AV.ptr ((0:Nat)) ((0:Nat)),AV.ptr ((1:Nat)) ((0:Nat)),
 AV.int IntKind.i64 (IntKind.i64.wrap ((↑x:Int) + (1:Int)))]
 [AV.str t,AV.ptr ((0:Nat)) ((0:Nat)),AV.ptr ((1:Nat)) ((0:Nat)),AV.int IntKind.i64 (↑y:Int)] ∧
 StIs
 { boxes:=[some [AV.sl ((3:Nat)) (bxsL r) Own.no],some [AV.str [],AV.int IntKind.i64 (0:Int),AV.sl ((0:Nat)) [] Own.nil]],live:=[] }
 { boxes:=[some [AV.sl ((3:Nat)) (bxsL r) Own.no],some [AV.str [],AV.int IntKind.i64 (0:Int),AV.sl ((0:Nat)) [] Own.nil]],live:=[] } ∧
 y≤lowB r t∧r.length - y < r.length - x) ∧
 (Op.bytesLess s t = false →
 (decide ((↑x:Int) < (↑(bxsL r).length:Int)) = true →
 ((0:Int)≤(↑x:Int)∧(↑x:Int) < (↑(bxsL r).length:Int)) ∧
 ∃ (s:List UInt8),
 takeAt PI ((9:Nat)) (bxsL r) (↑x:Int).toNat ((0:Nat)) = some (AV.str s) ∧
 ((s == t) = true →
 ((0:Int)≤(↑x:Int)∧(↑x:Int) < (↑(bxsL r).length:Int)) ∧
 ∃ (s:List UInt8),
 ∃ (n:Int),
 ∃ (es:List AV),
 takeAt PI ((75:Nat)) (bxsL r) (↑x:Int).toNat ((0:Nat)) =
 some (AV.agg [AV.str s,AV.int IntKind.i64 n,AV.sl ((1:Nat)) es Own.no]) ∧
 RetIs
 (AV.tup
 [AV.agg [AV.str s,AV.int IntKind.i64 n,AV.sl ((1:Nat)) es Own.no],AV.int IntKind.i64 (↑x:Int),
 AV.bool true])
 []
 (AV.tup
 [AV.agg
 [AV.str (r.getD (lowB r t) default).src,AV.int IntKind.i64 (r.getD (lowB r t) default).next,
 AV.sl ((1:Nat)) (intsA (r.getD (lowB r t) default).ahead) Own.no],
 AV.int IntKind.i64 (↑(lowB r t):Int),AV.bool true],
 [])) ∧
 ((s == t) = false →
 RetIs
 (AV.tup
 [AV.agg [AV.str t,AV.int IntKind.i64 (1:Int),AV.sl ((0:Nat)) [] Own.nil],AV.int IntKind.i64 (↑x:Int),
 AV.bool false])
 []
 (AV.tup
 [AV.agg
 [AV.str (r.getD (lowB r t) default).src,AV.int IntKind.i64 (r.getD (lowB r t) default).next,
 AV.sl ((1:Nat)) (intsA (r.getD (lowB r t) default).ahead) Own.no],
 AV.int IntKind.i64 (↑(lowB r t):Int),AV.bool true],
 []))) ∧
 (decide ((↑x:Int) < (↑(bxsL r).length:Int)) = false →
 RetIs
 (AV.tup [AV.agg [AV.str t,AV.int IntKind.i64 (1:Int),AV.sl ((0:Nat)) [] Own.nil],AV.int IntKind.i64 (↑x:Int),AV.bool false])
 []
 (AV.tup
 [AV.agg
 [AV.str (r.getD (lowB r t) default).src,AV.int IntKind.i64 (r.getD (lowB r t) default).next,
 AV.sl ((1:Nat)) (intsA (r.getD (lowB r t) default).ahead) Own.no],
 AV.int IntKind.i64 (↑(lowB r t):Int),AV.bool true],
 [])))) ∧
        (decide ((↑x:Int) < (↑(bxsL r).length:Int)) = false →
 (decide ((↑x:Int) < (↑(bxsL r).length:Int)) = true →
 ((0:Int)≤(↑x:Int)∧(↑x:Int) < (↑(bxsL r).length:Int)) ∧
 ∃ (s:List UInt8),
 takeAt PI ((9:Nat)) (bxsL r) (↑x:Int).toNat ((0:Nat)) = some (AV.str s) ∧
 ((s == t) = true →
 ((0:Int)≤(↑x:Int)∧(↑x:Int) < (↑(bxsL r).length:Int)) ∧
 ∃ (s:List UInt8),
 ∃ (n:Int),
 ∃ (es:List AV),
 takeAt PI ((75:Nat)) (bxsL r) (↑x:Int).toNat ((0:Nat)) =
 some (AV.agg [AV.str s,AV.int IntKind.i64 n,AV.sl ((1:Nat)) es Own.no]) ∧
 RetIs
 (AV.tup [AV.agg [AV.str s,AV.int IntKind.i64 n,AV.sl ((1:Nat)) es Own.no],AV.int IntKind.i64 (↑x:Int),AV.bool true])
 []
 (AV.tup
 [AV.agg
 [AV.str (r.getD (lowB r t) default).src,AV.int IntKind.i64 (r.getD (lowB r t) default).next,
 AV.sl ((1:Nat)) (intsA (r.getD (lowB r t) default).ahead) Own.no],
 AV.int IntKind.i64 (↑(lowB r t):Int),AV.bool true],
 [])) ∧
 ((s == t) = false →
 RetIs
 (AV.tup [AV.agg [AV.str t,AV.int IntKind.i64 (1:Int),AV.sl ((0:Nat)) [] Own.nil],AV.int IntKind.i64 (↑x:Int),AV.bool false])
 []
 (AV.tup
 [AV.agg
 [AV.str (r.getD (lowB r t) default).src,AV.int IntKind.i64 (r.getD (lowB r t) default).next,
 AV.sl ((1:Nat)) (intsA (r.getD (lowB r t) default).ahead) Own.no],
 AV.int IntKind.i64 (↑(lowB r t):Int),AV.bool true],
 []))) ∧
 (decide ((↑x:Int) < (↑(bxsL r).length:Int)) = false →
 RetIs (AV.tup [AV.agg [AV.str t,AV.int IntKind.i64 (1:Int),AV.sl ((0:Nat)) [] Own.nil],AV.int IntKind.i64 (↑x:Int),AV.bool false]) []
 (AV.tup
 [AV.agg
 [AV.str (r.getD (lowB r t) default).src,AV.int IntKind.i64 (r.getD (lowB r t) default).next,
 AV.sl ((1:Nat)) (intsA (r.getD (lowB r t) default).ahead) Own.no],
 AV.int IntKind.i64 (↑(lowB r t):Int),AV.bool true],
 [])))):=by kernel_rfl
theorem w36n (m:Int) (r:List BxI) (t:List UInt8):(pureW PI (GI m) XA (tbl []) (itbl []) (a36 r t) [] 36 [.agg [.sl 3 (bxsL r) .no],.str t] (.tup [.agg [.str t,.int .i64 1,.sl 0 [] .nil],.int .i64 (lowB r t),.bool false],[])) =
((∃ (y:Nat),
    ValsAre [AV.str t,AV.ptr ((0:Nat)) ((0:Nat)),AV.ptr ((1:Nat)) ((0:Nat)),AV.int IntKind.i64 (0:Int)]
        [AV.str t,AV.ptr ((0:Nat)) ((0:Nat)),AV.ptr ((1:Nat)) ((0:Nat)),AV.int IntKind.i64 (↑y:Int)] ∧
      StIs { boxes:=[some [AV.sl ((3:Nat)) (bxsL r) Own.no],some [AV.str [],AV.int IntKind.i64 (0:Int),AV.sl ((0:Nat)) [] Own.nil]],live:=[] }
 { boxes:=[some [AV.sl ((3:Nat)) (bxsL r) Own.no],some [AV.str [],AV.int IntKind.i64 (0:Int),AV.sl ((0:Nat)) [] Own.nil]],live:=[] } ∧
        y≤lowB r t∧True) ∧
  ∀ (x:Nat),
    x≤lowB r t →
      (decide ((↑x:Int) < (↑(bxsL r).length:Int)) = true →
 ((0:Int)≤(↑x:Int)∧(↑x:Int) < (↑(bxsL r).length:Int)) ∧
 ∃ (s:List UInt8),
 takeAt PI ((9:Nat)) (bxsL r) (↑x:Int).toNat ((0:Nat)) = some (AV.str s) ∧
 (Op.bytesLess s t = true →
 ∃ (y:Nat),
 ValsAre
 [AV.str t,AV.ptr ((0:Nat)) ((0:Nat)),AV.ptr ((1:Nat)) ((0:Nat)),
 AV.int IntKind.i64 (IntKind.i64.wrap ((↑x:Int) + (1:Int)))]
 [AV.str t,AV.ptr ((0:Nat)) ((0:Nat)),AV.ptr ((1:Nat)) ((0:Nat)),AV.int IntKind.i64 (↑y:Int)] ∧
 StIs
 { boxes:=[some [AV.sl ((3:Nat)) (bxsL r) Own.no],some [AV.str [],AV.int IntKind.i64 (0:Int),AV.sl ((0:Nat)) [] Own.nil]],live:=[] }
 { boxes:=[some [AV.sl ((3:Nat)) (bxsL r) Own.no],some [AV.str [],AV.int IntKind.i64 (0:Int),AV.sl ((0:Nat)) [] Own.nil]],live:=[] } ∧
 y≤lowB r t∧r.length - y < r.length - x) ∧
 (Op.bytesLess s t = false →
 (decide ((↑x:Int) < (↑(bxsL r).length:Int)) = true →
 ((0:Int)≤(↑x:Int)∧(↑x:Int) < (↑(bxsL r).length:Int)) ∧
 ∃ (s:List UInt8),
 takeAt PI ((9:Nat)) (bxsL r) (↑x:Int).toNat ((0:Nat)) = some (AV.str s) ∧
 ((s == t) = true →
 ((0:Int)≤(↑x:Int)∧(↑x:Int) < (↑(bxsL r).length:Int)) ∧
 ∃ (s:List UInt8),
 ∃ (n:Int),
 ∃ (es:List AV),
 takeAt PI ((75:Nat)) (bxsL r) (↑x:Int).toNat ((0:Nat)) =
 some (AV.agg [AV.str s,AV.int IntKind.i64 n,AV.sl ((1:Nat)) es Own.no]) ∧
 RetIs
 (AV.tup
 [AV.agg [AV.str s,AV.int IntKind.i64 n,AV.sl ((1:Nat)) es Own.no],AV.int IntKind.i64 (↑x:Int),
 AV.bool true])
 []
 (AV.tup
 [AV.agg [AV.str t,AV.int IntKind.i64 (1:Int),AV.sl ((0:Nat)) [] Own.nil],
 AV.int IntKind.i64 (↑(lowB r t):Int),AV.bool false],
 [])) ∧
 ((s == t) = false →
 RetIs
 (AV.tup
 [AV.agg [AV.str t,AV.int IntKind.i64 (1:Int),AV.sl ((0:Nat)) [] Own.nil],AV.int IntKind.i64 (↑x:Int),
 AV.bool false])
 []
 (AV.tup
 [AV.agg [AV.str t,AV.int IntKind.i64 (1:Int),AV.sl ((0:Nat)) [] Own.nil],AV.int IntKind.i64 (↑(lowB r t):Int),
 AV.bool false],
 []))) ∧
 (decide ((↑x:Int) < (↑(bxsL r).length:Int)) = false →
 RetIs
 (AV.tup [AV.agg [AV.str t,AV.int IntKind.i64 (1:Int),AV.sl ((0:Nat)) [] Own.nil],AV.int IntKind.i64 (↑x:Int),AV.bool false])
 []
 (AV.tup
 [AV.agg [AV.str t,AV.int IntKind.i64 (1:Int),AV.sl ((0:Nat)) [] Own.nil],AV.int IntKind.i64 (↑(lowB r t):Int),
 AV.bool false],
 [])))) ∧
        (decide ((↑x:Int) < (↑(bxsL r).length:Int)) = false →
 (decide ((↑x:Int) < (↑(bxsL r).length:Int)) = true →
 ((0:Int)≤(↑x:Int)∧(↑x:Int) < (↑(bxsL r).length:Int)) ∧
 ∃ (s:List UInt8),
 takeAt PI ((9:Nat)) (bxsL r) (↑x:Int).toNat ((0:Nat)) = some (AV.str s) ∧
 ((s == t) = true →
 ((0:Int)≤(↑x:Int)∧(↑x:Int) < (↑(bxsL r).length:Int)) ∧
 ∃ (s:List UInt8),
 ∃ (n:Int),
 ∃ (es:List AV),
 takeAt PI ((75:Nat)) (bxsL r) (↑x:Int).toNat ((0:Nat)) =
 some (AV.agg [AV.str s,AV.int IntKind.i64 n,AV.sl ((1:Nat)) es Own.no]) ∧
 RetIs
 (AV.tup [AV.agg [AV.str s,AV.int IntKind.i64 n,AV.sl ((1:Nat)) es Own.no],AV.int IntKind.i64 (↑x:Int),AV.bool true])
 []
 (AV.tup
 [AV.agg [AV.str t,AV.int IntKind.i64 (1:Int),AV.sl ((0:Nat)) [] Own.nil],AV.int IntKind.i64 (↑(lowB r t):Int),
 AV.bool false],
 [])) ∧
 ((s == t) = false →
 RetIs
 (AV.tup [AV.agg [AV.str t,AV.int IntKind.i64 (1:Int),AV.sl ((0:Nat)) [] Own.nil],AV.int IntKind.i64 (↑x:Int),AV.bool false])
 []
 (AV.tup
 [AV.agg [AV.str t,AV.int IntKind.i64 (1:Int),AV.sl ((0:Nat)) [] Own.nil],AV.int IntKind.i64 (↑(lowB r t):Int),
 AV.bool false],
 []))) ∧
 (decide ((↑x:Int) < (↑(bxsL r).length:Int)) = false →
 RetIs (AV.tup [AV.agg [AV.str t,AV.int IntKind.i64 (1:Int),AV.sl ((0:Nat)) [] Own.nil],AV.int IntKind.i64 (↑x:Int),AV.bool false]) []
 (AV.tup [AV.agg [AV.str t,AV.int IntKind.i64 (1:Int),AV.sl ((0:Nat)) [] Own.nil],AV.int IntKind.i64 (↑(lowB r t):Int),AV.bool false],
 [])))):=by kernel_rfl
theorem w38 (m:Int) (s:List UInt8) (x0:Int) (l:List Int) (n:Int):(pureW PI (GI m) XA (tbl [(37,s37)]) (itbl []) (a38 s x0 (.sl 1 (intsA l) .no) l n) [] 38 [.agg [.str s,.int .i64 x0,.sl 1 (intsA l) .no],.int .i64 n] (bxA (arrB ⟨s,x0,l⟩ n),[])) =
((∃ (y:Int × List Int),
    ValsAre [AV.int IntKind.i64 n,AV.ptr ((0:Nat)) ((0:Nat)),AV.ptr ((1:Nat)) ((0:Nat)),AV.ptr ((2:Nat)) ((0:Nat))]
        [AV.int IntKind.i64 n,AV.ptr ((0:Nat)) ((0:Nat)),AV.ptr ((1:Nat)) ((0:Nat)),AV.ptr ((2:Nat)) ((0:Nat))] ∧
      StIs
 { boxes:=[some [AV.str s,AV.int IntKind.i64 x0,AV.sl ((1:Nat)) (intsA l) Own.no],some [AV.str [],AV.int IntKind.i64 (0:Int),AV.sl ((0:Nat)) [] Own.nil],some [AV.str s,AV.int IntKind.i64 x0,AV.sl ((0:Nat)) [] Own.nil]],live:=[] }
 { boxes:=[some [AV.str s,AV.int IntKind.i64 x0,AV.sl ((1:Nat)) (intsA l) Own.no],some [AV.str [],AV.int IntKind.i64 (0:Int),AV.sl ((0:Nat)) [] Own.nil],some [AV.str s,AV.int IntKind.i64 y.fst,AV.sl ((0:Nat)) [] Own.nil]],live:=[] } ∧
        (I21 (insI n l) x0 { l:=y.snd,x:=y.fst,T:=y.snd }∧∀ (y_1:Int),y.fst≤y_1→(y_1 ∈ insI n l ↔ y_1 ∈ y.snd))∧True) ∧
  ∀ (x:Int × List Int),
    (I21 (insI n l) x0 { l:=x.snd,x:=x.fst,T:=x.snd }∧∀ (y:Int),x.fst≤y→(y ∈ insI n l ↔ y ∈ x.snd)) →
      ((x.fst == n) = true →
 ∃ (y:Int × List Int),
 ValsAre [AV.int IntKind.i64 n,AV.ptr ((0:Nat)) ((0:Nat)),AV.ptr ((1:Nat)) ((0:Nat)),AV.ptr ((2:Nat)) ((0:Nat))]
 [AV.int IntKind.i64 n,AV.ptr ((0:Nat)) ((0:Nat)),AV.ptr ((1:Nat)) ((0:Nat)),AV.ptr ((2:Nat)) ((0:Nat))] ∧
 StIs
 { boxes:=[some [AV.str s,AV.int IntKind.i64 x0,AV.sl ((1:Nat)) (intsA l) Own.no],some [AV.str [],AV.int IntKind.i64 (0:Int),AV.sl ((0:Nat)) [] Own.nil],some [AV.str s,AV.int IntKind.i64 (IntKind.i64.wrap (x.fst + (1:Int))),AV.sl ((0:Nat)) [] Own.nil]],live:=[] }
 { boxes:=[some [AV.str s,AV.int IntKind.i64 x0,AV.sl ((1:Nat)) (intsA l) Own.no],some [AV.str [],AV.int IntKind.i64 (0:Int),AV.sl ((0:Nat)) [] Own.nil],some [AV.str s,AV.int IntKind.i64 y.fst,AV.sl ((0:Nat)) [] Own.nil]],live:=[] } ∧
 (I21 (insI n l) x0 { l:=y.snd,x:=y.fst,T:=y.snd }∧∀ (y_1:Int),y.fst≤y_1→(y_1 ∈ insI n l ↔ y_1 ∈ y.snd)) ∧
 y.snd.length < x.snd.length) ∧
        ((x.fst == n) = false →
 ∃ (b:Bool),
 CallIs (tbl [((37:Nat),s37)] ((37:Nat)) [AV.sl ((1:Nat)) (intsA l) Own.no,AV.int IntKind.i64 x.fst]) (AV.bool b) [] ∧
 (b = true →
 ∃ (y:Int × List Int),
 ValsAre [AV.int IntKind.i64 n,AV.ptr ((0:Nat)) ((0:Nat)),AV.ptr ((1:Nat)) ((0:Nat)),AV.ptr ((2:Nat)) ((0:Nat))]
 [AV.int IntKind.i64 n,AV.ptr ((0:Nat)) ((0:Nat)),AV.ptr ((1:Nat)) ((0:Nat)),AV.ptr ((2:Nat)) ((0:Nat))] ∧
 StIs
 { boxes:=[some [AV.str s,AV.int IntKind.i64 x0,AV.sl ((1:Nat)) (intsA l) Own.no],some [AV.str [],AV.int IntKind.i64 (0:Int),AV.sl ((0:Nat)) [] Own.nil],some [AV.str s,AV.int IntKind.i64 (IntKind.i64.wrap (x.fst + (1:Int))),AV.sl ((0:Nat)) [] Own.nil]],live:=[] }
 { boxes:=[some [AV.str s,AV.int IntKind.i64 x0,AV.sl ((1:Nat)) (intsA l) Own.no],some [AV.str [],AV.int IntKind.i64 (0:Int),AV.sl ((0:Nat)) [] Own.nil],some [AV.str s,AV.int IntKind.i64 y.fst,AV.sl ((0:Nat)) [] Own.nil]],live:=[] } ∧
 (I21 (insI n l) x0 { l:=y.snd,x:=y.fst,T:=y.snd }∧∀ (y_1:Int),y.fst≤y_1→(y_1 ∈ insI n l ↔ y_1 ∈ y.snd)) ∧
 y.snd.length < x.snd.length) ∧
 (b = false →
 (decide (n < x.fst) = true →
 (∃ (y:St38),
 ValsAre
 [AV.int IntKind.i64 n,AV.ptr ((0:Nat)) ((0:Nat)),AV.ptr ((1:Nat)) ((0:Nat)),AV.ptr ((2:Nat)) ((0:Nat)),
 AV.bool true,AV.int IntKind.i64 (0:Int)]
 [AV.int IntKind.i64 n,AV.ptr ((0:Nat)) ((0:Nat)),AV.ptr ((1:Nat)) ((0:Nat)),AV.ptr ((2:Nat)) ((0:Nat)),
 AV.bool y.pl,AV.int IntKind.i64 (↑y.i:Int)] ∧
 StIs
 { boxes:=[some [AV.str s,AV.int IntKind.i64 x0,AV.sl ((1:Nat)) (intsA l) Own.no],some [AV.str [],AV.int IntKind.i64 (0:Int),AV.sl ((0:Nat)) [] Own.nil],some [AV.str s,AV.int IntKind.i64 x.fst,AV.sl ((1:Nat)) [] (Own.tok (0:Nat))]],live:=[((0:Nat),(3:Nat))] }
 { boxes:=[some [AV.str s,AV.int IntKind.i64 x0,AV.sl ((1:Nat)) (intsA l) Own.no],some [AV.str [],AV.int IntKind.i64 (0:Int),AV.sl ((0:Nat)) [] Own.nil],some [AV.str s,AV.int IntKind.i64 (runS (insI n l) x0).fst,AV.sl ((1:Nat)) (intsA y.out) (Own.tok ((0:Nat)))]],live:=[(y.out.length,(3:Nat))] } ∧
 (y.i≤l.length ∧
 (y.pl = false→(runS (insI n l) x0).fst≤n) ∧
 y.out ++ remL (runS (insI n l) x0).fst n y.pl (List.drop y.i l) = (runS (insI n l) x0).snd ∧
 y.out.length≤(2:Nat) * y.i) ∧
 True) ∧
 ∀ (x:St38),
 x.i≤l.length ∧
 (x.pl = false→(runS (insI n l) x0).fst≤n) ∧
 x.out ++ remL (runS (insI n l) x0).fst n x.pl (List.drop x.i l) = (runS (insI n l) x0).snd∧x.out.length≤(2:Nat) * x.i →
 (x.pl = true →
 (decide ((↑x.i:Int) < (↑(intsA l).length:Int)) = true →
 ((0:Int)≤(↑x.i:Int)∧(↑x.i:Int) < (↑(intsA l).length:Int)) ∧
 ∃ (n_1:Int),
 takeAt PI ((3:Nat)) (intsA l) (↑x.i:Int).toNat ((0:Nat)) = some (AV.int IntKind.i64 n_1) ∧
 (decide (n_1 ≥ (runS (insI n l) x0).fst) = true →
 ((0:Int)≤(↑x.i:Int)∧(↑x.i:Int) < (↑(intsA l).length:Int)) ∧
 ∃ (n_2:Int),
 takeAt PI ((3:Nat)) (intsA l) (↑x.i:Int).toNat ((0:Nat)) = some (AV.int IntKind.i64 n_2) ∧
 ((1:Nat) = (1:Nat)∨intsA x.out = []) ∧
 ((intsA x.out).length + (1:Nat)) * (9:Nat)≤(70368744177664:Nat) ∧
 x.out.length = (intsA x.out).length ∧
 ∃ (y:St38),
 ValsAre
 [AV.int IntKind.i64 n,AV.ptr ((0:Nat)) ((0:Nat)),AV.ptr ((1:Nat)) ((0:Nat)),
 AV.ptr ((2:Nat)) ((0:Nat)),AV.bool true,
 AV.int IntKind.i64 (IntKind.i64.wrap ((↑x.i:Int) + (1:Int)))]
 [AV.int IntKind.i64 n,AV.ptr ((0:Nat)) ((0:Nat)),AV.ptr ((1:Nat)) ((0:Nat)),
 AV.ptr ((2:Nat)) ((0:Nat)),AV.bool y.pl,AV.int IntKind.i64 (↑y.i:Int)] ∧
 StIs
 { boxes:=[some [AV.str s,AV.int IntKind.i64 x0,AV.sl ((1:Nat)) (intsA l) Own.no],some [AV.str [],AV.int IntKind.i64 (0:Int),AV.sl ((0:Nat)) [] Own.nil],some [AV.str s,AV.int IntKind.i64 (runS (insI n l) x0).fst,AV.sl ((1:Nat)) (intsA x.out ++ [AV.int IntKind.i64 n_2]) (Own.tok ((0:Nat)))]],live:=[((intsA x.out).length + (1:Nat),(3:Nat))] }
 { boxes:=[some [AV.str s,AV.int IntKind.i64 x0,AV.sl ((1:Nat)) (intsA l) Own.no],some [AV.str [],AV.int IntKind.i64 (0:Int),AV.sl ((0:Nat)) [] Own.nil],some [AV.str s,AV.int IntKind.i64 (runS (insI n l) x0).fst,AV.sl ((1:Nat)) (intsA y.out) (Own.tok ((0:Nat)))]],live:=[(y.out.length,(3:Nat))] } ∧
 (y.i≤l.length ∧
 (y.pl = false→(runS (insI n l) x0).fst≤n) ∧
 y.out ++ remL (runS (insI n l) x0).fst n y.pl (List.drop y.i l) =
 (runS (insI n l) x0).snd ∧
 y.out.length≤(2:Nat) * y.i) ∧
 l.length - y.i < l.length - x.i) ∧
 (decide (n_1 ≥ (runS (insI n l) x0).fst) = false →
 ∃ (y:St38),
 ValsAre
 [AV.int IntKind.i64 n,AV.ptr ((0:Nat)) ((0:Nat)),AV.ptr ((1:Nat)) ((0:Nat)),
 AV.ptr ((2:Nat)) ((0:Nat)),AV.bool true,
 AV.int IntKind.i64 (IntKind.i64.wrap ((↑x.i:Int) + (1:Int)))]
 [AV.int IntKind.i64 n,AV.ptr ((0:Nat)) ((0:Nat)),AV.ptr ((1:Nat)) ((0:Nat)),
 AV.ptr ((2:Nat)) ((0:Nat)),AV.bool y.pl,AV.int IntKind.i64 (↑y.i:Int)] ∧
 StIs
 { boxes:=[some [AV.str s,AV.int IntKind.i64 x0,AV.sl ((1:Nat)) (intsA l) Own.no],some [AV.str [],AV.int IntKind.i64 (0:Int),AV.sl ((0:Nat)) [] Own.nil],some [AV.str s,AV.int IntKind.i64 (runS (insI n l) x0).fst,AV.sl ((1:Nat)) (intsA x.out) (Own.tok ((0:Nat)))]],live:=[(x.out.length,(3:Nat))] }
 { boxes:=[some [AV.str s,AV.int IntKind.i64 x0,AV.sl ((1:Nat)) (intsA l) Own.no],some [AV.str [],AV.int IntKind.i64 (0:Int),AV.sl ((0:Nat)) [] Own.nil],some [AV.str s,AV.int IntKind.i64 (runS (insI n l) x0).fst,AV.sl ((1:Nat)) (intsA y.out) (Own.tok ((0:Nat)))]],live:=[(y.out.length,(3:Nat))] } ∧
 (y.i≤l.length ∧
 (y.pl = false→(runS (insI n l) x0).fst≤n) ∧
 y.out ++ remL (runS (insI n l) x0).fst n y.pl (List.drop y.i l) = (runS (insI n l) x0).snd ∧
 y.out.length≤(2:Nat) * y.i) ∧
 l.length - y.i < l.length - x.i)) ∧
 (decide ((↑x.i:Int) < (↑(intsA l).length:Int)) = false →
 RetIs (AV.agg [AV.str s,AV.int IntKind.i64 (runS (insI n l) x0).fst,AV.sl ((1:Nat)) (intsA x.out) Own.no]) []
 (AV.agg
 [AV.str (arrB { src:=s,next:=x0,ahead:=l } n).src,
 AV.int IntKind.i64 (arrB { src:=s,next:=x0,ahead:=l } n).next,
 AV.sl ((1:Nat)) (intsA (arrB { src:=s,next:=x0,ahead:=l } n).ahead) Own.no],
 []))) ∧
 (x.pl = false →
 (decide ((↑x.i:Int) < (↑(intsA l).length:Int)) = true →
 ((0:Int)≤(↑x.i:Int)∧(↑x.i:Int) < (↑(intsA l).length:Int)) ∧
 ∃ (n_1:Int),
 takeAt PI ((3:Nat)) (intsA l) (↑x.i:Int).toNat ((0:Nat)) = some (AV.int IntKind.i64 n_1) ∧
 (decide (n_1 > n) = true →
 ((1:Nat) = (1:Nat)∨intsA x.out = []) ∧
 ((intsA x.out).length + (1:Nat)) * (9:Nat)≤(70368744177664:Nat) ∧
 x.out.length = (intsA x.out).length ∧
 ((0:Int)≤(↑x.i:Int)∧(↑x.i:Int) < (↑(intsA l).length:Int)) ∧
 ∃ (n_2:Int),
 takeAt PI ((3:Nat)) (intsA l) (↑x.i:Int).toNat ((0:Nat)) = some (AV.int IntKind.i64 n_2) ∧
 (decide (n_2 ≥ (runS (insI n l) x0).fst) = true →
 ((0:Int)≤(↑x.i:Int)∧(↑x.i:Int) < (↑(intsA l).length:Int)) ∧
 ∃ (n_3:Int),
 takeAt PI ((3:Nat)) (intsA l) (↑x.i:Int).toNat ((0:Nat)) =
 some (AV.int IntKind.i64 n_3) ∧
 ((1:Nat) = (1:Nat)∨intsA x.out ++ [AV.int IntKind.i64 n] = []) ∧
 ((intsA x.out ++ [AV.int IntKind.i64 n]).length + (1:Nat)) * (9:Nat) ≤
 (70368744177664:Nat) ∧
 (intsA x.out).length + (1:Nat) = (intsA x.out ++ [AV.int IntKind.i64 n]).length ∧
 ∃ (y:St38),
 ValsAre
 [AV.int IntKind.i64 n,AV.ptr ((0:Nat)) ((0:Nat)),
 AV.ptr ((1:Nat)) ((0:Nat)),AV.ptr ((2:Nat)) ((0:Nat)),AV.bool true,
 AV.int IntKind.i64 (IntKind.i64.wrap ((↑x.i:Int) + (1:Int)))]
 [AV.int IntKind.i64 n,AV.ptr ((0:Nat)) ((0:Nat)),
 AV.ptr ((1:Nat)) ((0:Nat)),AV.ptr ((2:Nat)) ((0:Nat)),AV.bool y.pl,
 AV.int IntKind.i64 (↑y.i:Int)] ∧
 StIs
 { boxes:=[some [AV.str s,AV.int IntKind.i64 x0,AV.sl ((1:Nat)) (intsA l) Own.no],some [AV.str [],AV.int IntKind.i64 (0:Int),AV.sl ((0:Nat)) [] Own.nil],some [AV.str s,AV.int IntKind.i64 (runS (insI n l) x0).fst,AV.sl ((1:Nat)) (intsA x.out ++ [AV.int IntKind.i64 n] ++ [AV.int IntKind.i64 n_3]) (Own.tok ((0:Nat)))]],live:=[((intsA x.out ++ [AV.int IntKind.i64 n]).length + (1:Nat),(3:Nat))] }
 { boxes:=[some [AV.str s,AV.int IntKind.i64 x0,AV.sl ((1:Nat)) (intsA l) Own.no],some [AV.str [],AV.int IntKind.i64 (0:Int),AV.sl ((0:Nat)) [] Own.nil],some [AV.str s,AV.int IntKind.i64 (runS (insI n l) x0).fst,AV.sl ((1:Nat)) (intsA y.out) (Own.tok ((0:Nat)))]],live:=[(y.out.length,(3:Nat))] } ∧
 (y.i≤l.length ∧
 (y.pl = false→(runS (insI n l) x0).fst≤n) ∧
 y.out ++ remL (runS (insI n l) x0).fst n y.pl (List.drop y.i l) =
 (runS (insI n l) x0).snd ∧
 y.out.length≤(2:Nat) * y.i) ∧
 l.length - y.i < l.length - x.i) ∧
 (decide (n_2 ≥ (runS (insI n l) x0).fst) = false →
 ∃ (y:St38),
 ValsAre
 [AV.int IntKind.i64 n,AV.ptr ((0:Nat)) ((0:Nat)),AV.ptr ((1:Nat)) ((0:Nat)),
 AV.ptr ((2:Nat)) ((0:Nat)),AV.bool true,
 AV.int IntKind.i64 (IntKind.i64.wrap ((↑x.i:Int) + (1:Int)))]
 [AV.int IntKind.i64 n,AV.ptr ((0:Nat)) ((0:Nat)),AV.ptr ((1:Nat)) ((0:Nat)),
 AV.ptr ((2:Nat)) ((0:Nat)),AV.bool y.pl,AV.int IntKind.i64 (↑y.i:Int)] ∧
 StIs
 { boxes:=[some [AV.str s,AV.int IntKind.i64 x0,AV.sl ((1:Nat)) (intsA l) Own.no],some [AV.str [],AV.int IntKind.i64 (0:Int),AV.sl ((0:Nat)) [] Own.nil],some [AV.str s,AV.int IntKind.i64 (runS (insI n l) x0).fst,AV.sl ((1:Nat)) (intsA x.out ++ [AV.int IntKind.i64 n]) (Own.tok ((0:Nat)))]],live:=[((intsA x.out).length + (1:Nat),(3:Nat))] }
 { boxes:=[some [AV.str s,AV.int IntKind.i64 x0,AV.sl ((1:Nat)) (intsA l) Own.no],some [AV.str [],AV.int IntKind.i64 (0:Int),AV.sl ((0:Nat)) [] Own.nil],some [AV.str s,AV.int IntKind.i64 (runS (insI n l) x0).fst,AV.sl ((1:Nat)) (intsA y.out) (Own.tok ((0:Nat)))]],live:=[(y.out.length,(3:Nat))] } ∧
 (y.i≤l.length ∧
 (y.pl = false→(runS (insI n l) x0).fst≤n) ∧
 y.out ++ remL (runS (insI n l) x0).fst n y.pl (List.drop y.i l) =
 (runS (insI n l) x0).snd ∧
 y.out.length≤(2:Nat) * y.i) ∧
 l.length - y.i < l.length - x.i)) ∧
 (decide (n_1 > n) = false →
 ((0:Int)≤(↑x.i:Int)∧(↑x.i:Int) < (↑(intsA l).length:Int)) ∧
 ∃ (n_2:Int),
 takeAt PI ((3:Nat)) (intsA l) (↑x.i:Int).toNat ((0:Nat)) = some (AV.int IntKind.i64 n_2) ∧
 (decide (n_2 ≥ (runS (insI n l) x0).fst) = true →
 ((0:Int)≤(↑x.i:Int)∧(↑x.i:Int) < (↑(intsA l).length:Int)) ∧
 ∃ (n_3:Int),
 takeAt PI ((3:Nat)) (intsA l) (↑x.i:Int).toNat ((0:Nat)) = some (AV.int IntKind.i64 n_3) ∧
 ((1:Nat) = (1:Nat)∨intsA x.out = []) ∧
 ((intsA x.out).length + (1:Nat)) * (9:Nat)≤(70368744177664:Nat) ∧
 x.out.length = (intsA x.out).length ∧
 ∃ (y:St38),
 ValsAre
 [AV.int IntKind.i64 n,AV.ptr ((0:Nat)) ((0:Nat)),AV.ptr ((1:Nat)) ((0:Nat)),
 AV.ptr ((2:Nat)) ((0:Nat)),AV.bool false,
 AV.int IntKind.i64 (IntKind.i64.wrap ((↑x.i:Int) + (1:Int)))]
 [AV.int IntKind.i64 n,AV.ptr ((0:Nat)) ((0:Nat)),AV.ptr ((1:Nat)) ((0:Nat)),
 AV.ptr ((2:Nat)) ((0:Nat)),AV.bool y.pl,AV.int IntKind.i64 (↑y.i:Int)] ∧
 StIs
 { boxes:=[some [AV.str s,AV.int IntKind.i64 x0,AV.sl ((1:Nat)) (intsA l) Own.no],some [AV.str [],AV.int IntKind.i64 (0:Int),AV.sl ((0:Nat)) [] Own.nil],some [AV.str s,AV.int IntKind.i64 (runS (insI n l) x0).fst,AV.sl ((1:Nat)) (intsA x.out ++ [AV.int IntKind.i64 n_3]) (Own.tok ((0:Nat)))]],live:=[((intsA x.out).length + (1:Nat),(3:Nat))] }
 { boxes:=[some [AV.str s,AV.int IntKind.i64 x0,AV.sl ((1:Nat)) (intsA l) Own.no],some [AV.str [],AV.int IntKind.i64 (0:Int),AV.sl ((0:Nat)) [] Own.nil],some [AV.str s,AV.int IntKind.i64 (runS (insI n l) x0).fst,AV.sl ((1:Nat)) (intsA y.out) (Own.tok ((0:Nat)))]],live:=[(y.out.length,(3:Nat))] } ∧
 (y.i≤l.length ∧
 (y.pl = false→(runS (insI n l) x0).fst≤n) ∧
 y.out ++ remL (runS (insI n l) x0).fst n y.pl (List.drop y.i l) =
 (runS (insI n l) x0).snd ∧
 y.out.length≤(2:Nat) * y.i) ∧
 l.length - y.i < l.length - x.i) ∧
 (decide (n_2 ≥ (runS (insI n l) x0).fst) = false →
 ∃ (y:St38),
 ValsAre
 [AV.int IntKind.i64 n,AV.ptr ((0:Nat)) ((0:Nat)),AV.ptr ((1:Nat)) ((0:Nat)),
 AV.ptr ((2:Nat)) ((0:Nat)),AV.bool false,
 AV.int IntKind.i64 (IntKind.i64.wrap ((↑x.i:Int) + (1:Int)))]
 [AV.int IntKind.i64 n,AV.ptr ((0:Nat)) ((0:Nat)),AV.ptr ((1:Nat)) ((0:Nat)),
 AV.ptr ((2:Nat)) ((0:Nat)),AV.bool y.pl,AV.int IntKind.i64 (↑y.i:Int)] ∧
 StIs
 { boxes:=[some [AV.str s,AV.int IntKind.i64 x0,AV.sl ((1:Nat)) (intsA l) Own.no],some [AV.str [],AV.int IntKind.i64 (0:Int),AV.sl ((0:Nat)) [] Own.nil],some [AV.str s,AV.int IntKind.i64 (runS (insI n l) x0).fst,AV.sl ((1:Nat)) (intsA x.out) (Own.tok ((0:Nat)))]],live:=[(x.out.length,(3:Nat))] }
 { boxes:=[some [AV.str s,AV.int IntKind.i64 x0,AV.sl ((1:Nat)) (intsA l) Own.no],some [AV.str [],AV.int IntKind.i64 (0:Int),AV.sl ((0:Nat)) [] Own.nil],some [AV.str s,AV.int IntKind.i64 (runS (insI n l) x0).fst,AV.sl ((1:Nat)) (intsA y.out) (Own.tok ((0:Nat)))]],live:=[(y.out.length,(3:Nat))] } ∧
 (y.i≤l.length ∧
 (y.pl = false→(runS (insI n l) x0).fst≤n) ∧
 y.out ++ remL (runS (insI n l) x0).fst n y.pl (List.drop y.i l) = (runS (insI n l) x0).snd ∧
 y.out.length≤(2:Nat) * y.i) ∧
 l.length - y.i < l.length - x.i))) ∧
 (decide ((↑x.i:Int) < (↑(intsA l).length:Int)) = false →
 ((1:Nat) = (1:Nat)∨intsA x.out = []) ∧
 ((intsA x.out).length + (1:Nat)) * (9:Nat)≤(70368744177664:Nat) ∧
 x.out.length = (intsA x.out).length ∧
 RetIs
 (AV.agg
 [AV.str s,AV.int IntKind.i64 (runS (insI n l) x0).fst,
 AV.sl ((1:Nat)) (intsA x.out ++ [AV.int IntKind.i64 n]) Own.no])
 []
 (AV.agg
 [AV.str (arrB { src:=s,next:=x0,ahead:=l } n).src,
 AV.int IntKind.i64 (arrB { src:=s,next:=x0,ahead:=l } n).next,
 AV.sl ((1:Nat)) (intsA (arrB { src:=s,next:=x0,ahead:=l } n).ahead) Own.no],
 [])))) ∧
 (decide (n < x.fst) = false →
 (∃ (y:St38),
 ValsAre
 [AV.int IntKind.i64 n,AV.ptr ((0:Nat)) ((0:Nat)),AV.ptr ((1:Nat)) ((0:Nat)),AV.ptr ((2:Nat)) ((0:Nat)),
 AV.bool false,AV.int IntKind.i64 (0:Int)]
 [AV.int IntKind.i64 n,AV.ptr ((0:Nat)) ((0:Nat)),AV.ptr ((1:Nat)) ((0:Nat)),AV.ptr ((2:Nat)) ((0:Nat)),
 AV.bool y.pl,AV.int IntKind.i64 (↑y.i:Int)] ∧
 StIs
 { boxes:=[some [AV.str s,AV.int IntKind.i64 x0,AV.sl ((1:Nat)) (intsA l) Own.no],some [AV.str [],AV.int IntKind.i64 (0:Int),AV.sl ((0:Nat)) [] Own.nil],some [AV.str s,AV.int IntKind.i64 x.fst,AV.sl ((1:Nat)) [] (Own.tok (0:Nat))]],live:=[((0:Nat),(3:Nat))] }
 { boxes:=[some [AV.str s,AV.int IntKind.i64 x0,AV.sl ((1:Nat)) (intsA l) Own.no],some [AV.str [],AV.int IntKind.i64 (0:Int),AV.sl ((0:Nat)) [] Own.nil],some [AV.str s,AV.int IntKind.i64 (runS (insI n l) x0).fst,AV.sl ((1:Nat)) (intsA y.out) (Own.tok ((0:Nat)))]],live:=[(y.out.length,(3:Nat))] } ∧
 (y.i≤l.length ∧
 (y.pl = false→(runS (insI n l) x0).fst≤n) ∧
 y.out ++ remL (runS (insI n l) x0).fst n y.pl (List.drop y.i l) = (runS (insI n l) x0).snd ∧
 y.out.length≤(2:Nat) * y.i) ∧
 True) ∧
 ∀ (x:St38),
 x.i≤l.length ∧
 (x.pl = false→(runS (insI n l) x0).fst≤n) ∧
 x.out ++ remL (runS (insI n l) x0).fst n x.pl (List.drop x.i l) = (runS (insI n l) x0).snd∧x.out.length≤(2:Nat) * x.i →
 (x.pl = true →
 (decide ((↑x.i:Int) < (↑(intsA l).length:Int)) = true →
 ((0:Int)≤(↑x.i:Int)∧(↑x.i:Int) < (↑(intsA l).length:Int)) ∧
 ∃ (n_1:Int),
 takeAt PI ((3:Nat)) (intsA l) (↑x.i:Int).toNat ((0:Nat)) = some (AV.int IntKind.i64 n_1) ∧
 (decide (n_1 ≥ (runS (insI n l) x0).fst) = true →
 ((0:Int)≤(↑x.i:Int)∧(↑x.i:Int) < (↑(intsA l).length:Int)) ∧
 ∃ (n_2:Int),
 takeAt PI ((3:Nat)) (intsA l) (↑x.i:Int).toNat ((0:Nat)) = some (AV.int IntKind.i64 n_2) ∧
 ((1:Nat) = (1:Nat)∨intsA x.out = []) ∧
 ((intsA x.out).length + (1:Nat)) * (9:Nat)≤(70368744177664:Nat) ∧
 x.out.length = (intsA x.out).length ∧
 ∃ (y:St38),
 ValsAre
 [AV.int IntKind.i64 n,AV.ptr ((0:Nat)) ((0:Nat)),AV.ptr ((1:Nat)) ((0:Nat)),
 AV.ptr ((2:Nat)) ((0:Nat)),AV.bool true,
 AV.int IntKind.i64 (IntKind.i64.wrap ((↑x.i:Int) + (1:Int)))]
 [AV.int IntKind.i64 n,AV.ptr ((0:Nat)) ((0:Nat)),AV.ptr ((1:Nat)) ((0:Nat)),
 AV.ptr ((2:Nat)) ((0:Nat)),AV.bool y.pl,AV.int IntKind.i64 (↑y.i:Int)] ∧
 StIs
 { boxes:=[some [AV.str s,AV.int IntKind.i64 x0,AV.sl ((1:Nat)) (intsA l) Own.no],some [AV.str [],AV.int IntKind.i64 (0:Int),AV.sl ((0:Nat)) [] Own.nil],some [AV.str s,AV.int IntKind.i64 (runS (insI n l) x0).fst,AV.sl ((1:Nat)) (intsA x.out ++ [AV.int IntKind.i64 n_2]) (Own.tok ((0:Nat)))]],live:=[((intsA x.out).length + (1:Nat),(3:Nat))] }
 { boxes:=[some [AV.str s,AV.int IntKind.i64 x0,AV.sl ((1:Nat)) (intsA l) Own.no],some [AV.str [],AV.int IntKind.i64 (0:Int),AV.sl ((0:Nat)) [] Own.nil],some [AV.str s,AV.int IntKind.i64 (runS (insI n l) x0).fst,AV.sl ((1:Nat)) (intsA y.out) (Own.tok ((0:Nat)))]],live:=[(y.out.length,(3:Nat))] } ∧
 (y.i≤l.length ∧
 (y.pl = false→(runS (insI n l) x0).fst≤n) ∧
 y.out ++ remL (runS (insI n l) x0).fst n y.pl (List.drop y.i l) =
 (runS (insI n l) x0).snd ∧
 y.out.length≤(2:Nat) * y.i) ∧
 l.length - y.i < l.length - x.i) ∧
 (decide (n_1 ≥ (runS (insI n l) x0).fst) = false →
 ∃ (y:St38),
 ValsAre
 [AV.int IntKind.i64 n,AV.ptr ((0:Nat)) ((0:Nat)),AV.ptr ((1:Nat)) ((0:Nat)),
 AV.ptr ((2:Nat)) ((0:Nat)),AV.bool true,
 AV.int IntKind.i64 (IntKind.i64.wrap ((↑x.i:Int) + (1:Int)))]
 [AV.int IntKind.i64 n,AV.ptr ((0:Nat)) ((0:Nat)),AV.ptr ((1:Nat)) ((0:Nat)),
 AV.ptr ((2:Nat)) ((0:Nat)),AV.bool y.pl,AV.int IntKind.i64 (↑y.i:Int)] ∧
 StIs
 { boxes:=[some [AV.str s,AV.int IntKind.i64 x0,AV.sl ((1:Nat)) (intsA l) Own.no],some [AV.str [],AV.int IntKind.i64 (0:Int),AV.sl ((0:Nat)) [] Own.nil],some [AV.str s,AV.int IntKind.i64 (runS (insI n l) x0).fst,AV.sl ((1:Nat)) (intsA x.out) (Own.tok ((0:Nat)))]],live:=[(x.out.length,(3:Nat))] }
 { boxes:=[some [AV.str s,AV.int IntKind.i64 x0,AV.sl ((1:Nat)) (intsA l) Own.no],some [AV.str [],AV.int IntKind.i64 (0:Int),AV.sl ((0:Nat)) [] Own.nil],some [AV.str s,AV.int IntKind.i64 (runS (insI n l) x0).fst,AV.sl ((1:Nat)) (intsA y.out) (Own.tok ((0:Nat)))]],live:=[(y.out.length,(3:Nat))] } ∧
 (y.i≤l.length ∧
 (y.pl = false→(runS (insI n l) x0).fst≤n) ∧
 y.out ++ remL (runS (insI n l) x0).fst n y.pl (List.drop y.i l) = (runS (insI n l) x0).snd ∧
 y.out.length≤(2:Nat) * y.i) ∧
 l.length - y.i < l.length - x.i)) ∧
 (decide ((↑x.i:Int) < (↑(intsA l).length:Int)) = false →
 RetIs (AV.agg [AV.str s,AV.int IntKind.i64 (runS (insI n l) x0).fst,AV.sl ((1:Nat)) (intsA x.out) Own.no]) []
 (AV.agg
 [AV.str (arrB { src:=s,next:=x0,ahead:=l } n).src,
 AV.int IntKind.i64 (arrB { src:=s,next:=x0,ahead:=l } n).next,
 AV.sl ((1:Nat)) (intsA (arrB { src:=s,next:=x0,ahead:=l } n).ahead) Own.no],
 []))) ∧
 (x.pl = false →
 (decide ((↑x.i:Int) < (↑(intsA l).length:Int)) = true →
 ((0:Int)≤(↑x.i:Int)∧(↑x.i:Int) < (↑(intsA l).length:Int)) ∧
 ∃ (n_1:Int),
 takeAt PI ((3:Nat)) (intsA l) (↑x.i:Int).toNat ((0:Nat)) = some (AV.int IntKind.i64 n_1) ∧
 (decide (n_1 > n) = true →
 ((1:Nat) = (1:Nat)∨intsA x.out = []) ∧
 ((intsA x.out).length + (1:Nat)) * (9:Nat)≤(70368744177664:Nat) ∧
 x.out.length = (intsA x.out).length ∧
 ((0:Int)≤(↑x.i:Int)∧(↑x.i:Int) < (↑(intsA l).length:Int)) ∧
 ∃ (n_2:Int),
 takeAt PI ((3:Nat)) (intsA l) (↑x.i:Int).toNat ((0:Nat)) = some (AV.int IntKind.i64 n_2) ∧
 (decide (n_2 ≥ (runS (insI n l) x0).fst) = true →
 ((0:Int)≤(↑x.i:Int)∧(↑x.i:Int) < (↑(intsA l).length:Int)) ∧
 ∃ (n_3:Int),
 takeAt PI ((3:Nat)) (intsA l) (↑x.i:Int).toNat ((0:Nat)) =
 some (AV.int IntKind.i64 n_3) ∧
 ((1:Nat) = (1:Nat)∨intsA x.out ++ [AV.int IntKind.i64 n] = []) ∧
 ((intsA x.out ++ [AV.int IntKind.i64 n]).length + (1:Nat)) * (9:Nat) ≤
 (70368744177664:Nat) ∧
 (intsA x.out).length + (1:Nat) = (intsA x.out ++ [AV.int IntKind.i64 n]).length ∧
 ∃ (y:St38),
 ValsAre
 [AV.int IntKind.i64 n,AV.ptr ((0:Nat)) ((0:Nat)),
 AV.ptr ((1:Nat)) ((0:Nat)),AV.ptr ((2:Nat)) ((0:Nat)),AV.bool true,
 AV.int IntKind.i64 (IntKind.i64.wrap ((↑x.i:Int) + (1:Int)))]
 [AV.int IntKind.i64 n,AV.ptr ((0:Nat)) ((0:Nat)),
 AV.ptr ((1:Nat)) ((0:Nat)),AV.ptr ((2:Nat)) ((0:Nat)),AV.bool y.pl,
 AV.int IntKind.i64 (↑y.i:Int)] ∧
 StIs
 { boxes:=[some [AV.str s,AV.int IntKind.i64 x0,AV.sl ((1:Nat)) (intsA l) Own.no],some [AV.str [],AV.int IntKind.i64 (0:Int),AV.sl ((0:Nat)) [] Own.nil],some [AV.str s,AV.int IntKind.i64 (runS (insI n l) x0).fst,AV.sl ((1:Nat)) (intsA x.out ++ [AV.int IntKind.i64 n] ++ [AV.int IntKind.i64 n_3]) (Own.tok ((0:Nat)))]],live:=[((intsA x.out ++ [AV.int IntKind.i64 n]).length + (1:Nat),(3:Nat))] }
 { boxes:=[some [AV.str s,AV.int IntKind.i64 x0,AV.sl ((1:Nat)) (intsA l) Own.no],some [AV.str [],AV.int IntKind.i64 (0:Int),AV.sl ((0:Nat)) [] Own.nil],some [AV.str s,AV.int IntKind.i64 (runS (insI n l) x0).fst,AV.sl ((1:Nat)) (intsA y.out) (Own.tok ((0:Nat)))]],live:=[(y.out.length,(3:Nat))] } ∧
 (y.i≤l.length ∧
 (y.pl = false→(runS (insI n l) x0).fst≤n) ∧
 y.out ++ remL (runS (insI n l) x0).fst n y.pl (List.drop y.i l) =
 (runS (insI n l) x0).snd ∧
 y.out.length≤(2:Nat) * y.i) ∧
 l.length - y.i < l.length - x.i) ∧
 (decide (n_2 ≥ (runS (insI n l) x0).fst) = false →
 ∃ (y:St38),
 ValsAre
 [AV.int IntKind.i64 n,AV.ptr ((0:Nat)) ((0:Nat)),AV.ptr ((1:Nat)) ((0:Nat)),
 AV.ptr ((2:Nat)) ((0:Nat)),AV.bool true,
 AV.int IntKind.i64 (IntKind.i64.wrap ((↑x.i:Int) + (1:Int)))]
 [AV.int IntKind.i64 n,AV.ptr ((0:Nat)) ((0:Nat)),AV.ptr ((1:Nat)) ((0:Nat)),
 AV.ptr ((2:Nat)) ((0:Nat)),AV.bool y.pl,AV.int IntKind.i64 (↑y.i:Int)] ∧
 StIs
 { boxes:=[some [AV.str s,AV.int IntKind.i64 x0,AV.sl ((1:Nat)) (intsA l) Own.no],some [AV.str [],AV.int IntKind.i64 (0:Int),AV.sl ((0:Nat)) [] Own.nil],some [AV.str s,AV.int IntKind.i64 (runS (insI n l) x0).fst,AV.sl ((1:Nat)) (intsA x.out ++ [AV.int IntKind.i64 n]) (Own.tok ((0:Nat)))]],live:=[((intsA x.out).length + (1:Nat),(3:Nat))] }
 { boxes:=[some [AV.str s,AV.int IntKind.i64 x0,AV.sl ((1:Nat)) (intsA l) Own.no],some [AV.str [],AV.int IntKind.i64 (0:Int),AV.sl ((0:Nat)) [] Own.nil],some [AV.str s,AV.int IntKind.i64 (runS (insI n l) x0).fst,AV.sl ((1:Nat)) (intsA y.out) (Own.tok ((0:Nat)))]],live:=[(y.out.length,(3:Nat))] } ∧
 (y.i≤l.length ∧
 (y.pl = false→(runS (insI n l) x0).fst≤n) ∧
 y.out ++ remL (runS (insI n l) x0).fst n y.pl (List.drop y.i l) =
 (runS (insI n l) x0).snd ∧
 y.out.length≤(2:Nat) * y.i) ∧
 l.length - y.i < l.length - x.i)) ∧
 (decide (n_1 > n) = false →
 ((0:Int)≤(↑x.i:Int)∧(↑x.i:Int) < (↑(intsA l).length:Int)) ∧
 ∃ (n_2:Int),
 takeAt PI ((3:Nat)) (intsA l) (↑x.i:Int).toNat ((0:Nat)) = some (AV.int IntKind.i64 n_2) ∧
 (decide (n_2 ≥ (runS (insI n l) x0).fst) = true →
 ((0:Int)≤(↑x.i:Int)∧(↑x.i:Int) < (↑(intsA l).length:Int)) ∧
 ∃ (n_3:Int),
 takeAt PI ((3:Nat)) (intsA l) (↑x.i:Int).toNat ((0:Nat)) = some (AV.int IntKind.i64 n_3) ∧
 ((1:Nat) = (1:Nat)∨intsA x.out = []) ∧
 ((intsA x.out).length + (1:Nat)) * (9:Nat)≤(70368744177664:Nat) ∧
 x.out.length = (intsA x.out).length ∧
 ∃ (y:St38),
 ValsAre
 [AV.int IntKind.i64 n,AV.ptr ((0:Nat)) ((0:Nat)),AV.ptr ((1:Nat)) ((0:Nat)),
 AV.ptr ((2:Nat)) ((0:Nat)),AV.bool false,
 AV.int IntKind.i64 (IntKind.i64.wrap ((↑x.i:Int) + (1:Int)))]
 [AV.int IntKind.i64 n,AV.ptr ((0:Nat)) ((0:Nat)),AV.ptr ((1:Nat)) ((0:Nat)),
 AV.ptr ((2:Nat)) ((0:Nat)),AV.bool y.pl,AV.int IntKind.i64 (↑y.i:Int)] ∧
 StIs
 { boxes:=[some [AV.str s,AV.int IntKind.i64 x0,AV.sl ((1:Nat)) (intsA l) Own.no],some [AV.str [],AV.int IntKind.i64 (0:Int),AV.sl ((0:Nat)) [] Own.nil],some [AV.str s,AV.int IntKind.i64 (runS (insI n l) x0).fst,AV.sl ((1:Nat)) (intsA x.out ++ [AV.int IntKind.i64 n_3]) (Own.tok ((0:Nat)))]],live:=[((intsA x.out).length + (1:Nat),(3:Nat))] }
 { boxes:=[some [AV.str s,AV.int IntKind.i64 x0,AV.sl ((1:Nat)) (intsA l) Own.no],some [AV.str [],AV.int IntKind.i64 (0:Int),AV.sl ((0:Nat)) [] Own.nil],some [AV.str s,AV.int IntKind.i64 (runS (insI n l) x0).fst,AV.sl ((1:Nat)) (intsA y.out) (Own.tok ((0:Nat)))]],live:=[(y.out.length,(3:Nat))] } ∧
 (y.i≤l.length ∧
 (y.pl = false→(runS (insI n l) x0).fst≤n) ∧
 y.out ++ remL (runS (insI n l) x0).fst n y.pl (List.drop y.i l) =
 (runS (insI n l) x0).snd ∧
 y.out.length≤(2:Nat) * y.i) ∧
 l.length - y.i < l.length - x.i) ∧
 (decide (n_2 ≥ (runS (insI n l) x0).fst) = false →
 ∃ (y:St38),
 ValsAre
 [AV.int IntKind.i64 n,AV.ptr ((0:Nat)) ((0:Nat)),AV.ptr ((1:Nat)) ((0:Nat)),
 AV.ptr ((2:Nat)) ((0:Nat)),AV.bool false,
 AV.int IntKind.i64 (IntKind.i64.wrap ((↑x.i:Int) + (1:Int)))]
 [AV.int IntKind.i64 n,AV.ptr ((0:Nat)) ((0:Nat)),AV.ptr ((1:Nat)) ((0:Nat)),
 AV.ptr ((2:Nat)) ((0:Nat)),AV.bool y.pl,AV.int IntKind.i64 (↑y.i:Int)] ∧
 StIs
 { boxes:=[some [AV.str s,AV.int IntKind.i64 x0,AV.sl ((1:Nat)) (intsA l) Own.no],some [AV.str [],AV.int IntKind.i64 (0:Int),AV.sl ((0:Nat)) [] Own.nil],some [AV.str s,AV.int IntKind.i64 (runS (insI n l) x0).fst,AV.sl ((1:Nat)) (intsA x.out) (Own.tok ((0:Nat)))]],live:=[(x.out.length,(3:Nat))] }
 { boxes:=[some [AV.str s,AV.int IntKind.i64 x0,AV.sl ((1:Nat)) (intsA l) Own.no],some [AV.str [],AV.int IntKind.i64 (0:Int),AV.sl ((0:Nat)) [] Own.nil],some [AV.str s,AV.int IntKind.i64 (runS (insI n l) x0).fst,AV.sl ((1:Nat)) (intsA y.out) (Own.tok ((0:Nat)))]],live:=[(y.out.length,(3:Nat))] } ∧
 (y.i≤l.length ∧
 (y.pl = false→(runS (insI n l) x0).fst≤n) ∧
 y.out ++ remL (runS (insI n l) x0).fst n y.pl (List.drop y.i l) = (runS (insI n l) x0).snd ∧
 y.out.length≤(2:Nat) * y.i) ∧
 l.length - y.i < l.length - x.i))) ∧
 (decide ((↑x.i:Int) < (↑(intsA l).length:Int)) = false →
 ((1:Nat) = (1:Nat)∨intsA x.out = []) ∧
 ((intsA x.out).length + (1:Nat)) * (9:Nat)≤(70368744177664:Nat) ∧
 x.out.length = (intsA x.out).length ∧
 RetIs
 (AV.agg
 [AV.str s,AV.int IntKind.i64 (runS (insI n l) x0).fst,
 AV.sl ((1:Nat)) (intsA x.out ++ [AV.int IntKind.i64 n]) Own.no])
 []
 (AV.agg
 [AV.str (arrB { src:=s,next:=x0,ahead:=l } n).src,
 AV.int IntKind.i64 (arrB { src:=s,next:=x0,ahead:=l } n).next,
 AV.sl ((1:Nat)) (intsA (arrB { src:=s,next:=x0,ahead:=l } n).ahead) Own.no],
 []))))))):=by kernel_rfl
theorem w38z (m:Int) (s:List UInt8) (n:Int):(pureW PI (GI m) XA (tbl [(37,s37z)]) (itbl []) (a38 s 1 (.sl 0 [] .nil) [] n) [] 38 [.agg [.str s,.int .i64 1,.sl 0 [] .nil],.int .i64 n] (bxA (arrB ⟨s,1,[]⟩ n),[])) =
((∃ (y:Int × List Int),
    ValsAre [AV.int IntKind.i64 n,AV.ptr ((0:Nat)) ((0:Nat)),AV.ptr ((1:Nat)) ((0:Nat)),AV.ptr ((2:Nat)) ((0:Nat))]
        [AV.int IntKind.i64 n,AV.ptr ((0:Nat)) ((0:Nat)),AV.ptr ((1:Nat)) ((0:Nat)),AV.ptr ((2:Nat)) ((0:Nat))] ∧
      StIs
 { boxes:=[some [AV.str s,AV.int IntKind.i64 (1:Int),AV.sl ((0:Nat)) [] Own.nil],some [AV.str [],AV.int IntKind.i64 (0:Int),AV.sl ((0:Nat)) [] Own.nil],some [AV.str s,AV.int IntKind.i64 (1:Int),AV.sl ((0:Nat)) [] Own.nil]],live:=[] }
 { boxes:=[some [AV.str s,AV.int IntKind.i64 (1:Int),AV.sl ((0:Nat)) [] Own.nil],some [AV.str [],AV.int IntKind.i64 (0:Int),AV.sl ((0:Nat)) [] Own.nil],some [AV.str s,AV.int IntKind.i64 y.fst,AV.sl ((0:Nat)) [] Own.nil]],live:=[] } ∧
        (I21 (insI n []) (1:Int) { l:=y.snd,x:=y.fst,T:=y.snd }∧∀ (y_1:Int),y.fst≤y_1→(y_1 ∈ insI n [] ↔ y_1 ∈ y.snd))∧True) ∧
  ∀ (x:Int × List Int),
    (I21 (insI n []) (1:Int) { l:=x.snd,x:=x.fst,T:=x.snd }∧∀ (y:Int),x.fst≤y→(y ∈ insI n [] ↔ y ∈ x.snd)) →
      ((x.fst == n) = true →
 ∃ (y:Int × List Int),
 ValsAre [AV.int IntKind.i64 n,AV.ptr ((0:Nat)) ((0:Nat)),AV.ptr ((1:Nat)) ((0:Nat)),AV.ptr ((2:Nat)) ((0:Nat))]
 [AV.int IntKind.i64 n,AV.ptr ((0:Nat)) ((0:Nat)),AV.ptr ((1:Nat)) ((0:Nat)),AV.ptr ((2:Nat)) ((0:Nat))] ∧
 StIs
 { boxes:=[some [AV.str s,AV.int IntKind.i64 (1:Int),AV.sl ((0:Nat)) [] Own.nil],some [AV.str [],AV.int IntKind.i64 (0:Int),AV.sl ((0:Nat)) [] Own.nil],some [AV.str s,AV.int IntKind.i64 (IntKind.i64.wrap (x.fst + (1:Int))),AV.sl ((0:Nat)) [] Own.nil]],live:=[] }
 { boxes:=[some [AV.str s,AV.int IntKind.i64 (1:Int),AV.sl ((0:Nat)) [] Own.nil],some [AV.str [],AV.int IntKind.i64 (0:Int),AV.sl ((0:Nat)) [] Own.nil],some [AV.str s,AV.int IntKind.i64 y.fst,AV.sl ((0:Nat)) [] Own.nil]],live:=[] } ∧
 (I21 (insI n []) (1:Int) { l:=y.snd,x:=y.fst,T:=y.snd }∧∀ (y_1:Int),y.fst≤y_1→(y_1 ∈ insI n [] ↔ y_1 ∈ y.snd)) ∧
 y.snd.length < x.snd.length) ∧
        ((x.fst == n) = false →
 ∃ (b:Bool),
 CallIs (some (AV.bool false,[])) (AV.bool b) [] ∧
 (b = true →
 ∃ (y:Int × List Int),
 ValsAre [AV.int IntKind.i64 n,AV.ptr ((0:Nat)) ((0:Nat)),AV.ptr ((1:Nat)) ((0:Nat)),AV.ptr ((2:Nat)) ((0:Nat))]
 [AV.int IntKind.i64 n,AV.ptr ((0:Nat)) ((0:Nat)),AV.ptr ((1:Nat)) ((0:Nat)),AV.ptr ((2:Nat)) ((0:Nat))] ∧
 StIs
 { boxes:=[some [AV.str s,AV.int IntKind.i64 (1:Int),AV.sl ((0:Nat)) [] Own.nil],some [AV.str [],AV.int IntKind.i64 (0:Int),AV.sl ((0:Nat)) [] Own.nil],some [AV.str s,AV.int IntKind.i64 (IntKind.i64.wrap (x.fst + (1:Int))),AV.sl ((0:Nat)) [] Own.nil]],live:=[] }
 { boxes:=[some [AV.str s,AV.int IntKind.i64 (1:Int),AV.sl ((0:Nat)) [] Own.nil],some [AV.str [],AV.int IntKind.i64 (0:Int),AV.sl ((0:Nat)) [] Own.nil],some [AV.str s,AV.int IntKind.i64 y.fst,AV.sl ((0:Nat)) [] Own.nil]],live:=[] } ∧
 (I21 (insI n []) (1:Int) { l:=y.snd,x:=y.fst,T:=y.snd }∧∀ (y_1:Int),y.fst≤y_1→(y_1 ∈ insI n [] ↔ y_1 ∈ y.snd)) ∧
 y.snd.length < x.snd.length) ∧
 (b = false →
 (decide (n < x.fst) = true →
 (∃ (y:St38),
 ValsAre
 [AV.int IntKind.i64 n,AV.ptr ((0:Nat)) ((0:Nat)),AV.ptr ((1:Nat)) ((0:Nat)),AV.ptr ((2:Nat)) ((0:Nat)),
 AV.bool true,AV.int IntKind.i64 (0:Int)]
 [AV.int IntKind.i64 n,AV.ptr ((0:Nat)) ((0:Nat)),AV.ptr ((1:Nat)) ((0:Nat)),AV.ptr ((2:Nat)) ((0:Nat)),
 AV.bool y.pl,AV.int IntKind.i64 (↑y.i:Int)] ∧
 StIs
 { boxes:=[some [AV.str s,AV.int IntKind.i64 (1:Int),AV.sl ((0:Nat)) [] Own.nil],some [AV.str [],AV.int IntKind.i64 (0:Int),AV.sl ((0:Nat)) [] Own.nil],some [AV.str s,AV.int IntKind.i64 x.fst,AV.sl ((1:Nat)) [] (Own.tok (0:Nat))]],live:=[((0:Nat),(3:Nat))] }
 { boxes:=[some [AV.str s,AV.int IntKind.i64 (1:Int),AV.sl ((0:Nat)) [] Own.nil],some [AV.str [],AV.int IntKind.i64 (0:Int),AV.sl ((0:Nat)) [] Own.nil],some [AV.str s,AV.int IntKind.i64 (runS [n] (1:Int)).fst,AV.sl ((1:Nat)) (intsA y.out) (Own.tok ((0:Nat)))]],live:=[(y.out.length,(3:Nat))] } ∧
 (y.i≤([]:List Int).length ∧
 (y.pl = false→(runS (insI n []) (1:Int)).fst≤n) ∧
 y.out ++ remL (runS (insI n []) (1:Int)).fst n y.pl (List.drop y.i []) = (runS (insI n []) (1:Int)).snd ∧
 y.out.length≤(2:Nat) * y.i) ∧
 True) ∧
 ∀ (x:St38),
 x.i≤([]:List Int).length ∧
 (x.pl = false→(runS (insI n []) (1:Int)).fst≤n) ∧
 x.out ++ remL (runS (insI n []) (1:Int)).fst n x.pl (List.drop x.i []) = (runS (insI n []) (1:Int)).snd ∧
 x.out.length≤(2:Nat) * x.i →
 (x.pl = true →
 (decide ((↑x.i:Int) < (0:Int)) = true→((0:Int)≤(↑x.i:Int)∧(↑x.i:Int) < (0:Int))∧False) ∧
 (decide ((↑x.i:Int) < (0:Int)) = false →
 RetIs (AV.agg [AV.str s,AV.int IntKind.i64 (runS [n] (1:Int)).fst,AV.sl ((1:Nat)) (intsA x.out) Own.no]) []
 (AV.agg
 [AV.str (arrB { src:=s,next:=(1:Int),ahead:=[] } n).src,
 AV.int IntKind.i64 (arrB { src:=s,next:=(1:Int),ahead:=[] } n).next,
 AV.sl ((1:Nat)) (intsA (arrB { src:=s,next:=(1:Int),ahead:=[] } n).ahead) Own.no],
 []))) ∧
 (x.pl = false →
 (decide ((↑x.i:Int) < (0:Int)) = true→((0:Int)≤(↑x.i:Int)∧(↑x.i:Int) < (0:Int))∧False) ∧
 (decide ((↑x.i:Int) < (0:Int)) = false →
 ((1:Nat) = (1:Nat)∨intsA x.out = []) ∧
 ((intsA x.out).length + (1:Nat)) * (9:Nat)≤(70368744177664:Nat) ∧
 x.out.length = (intsA x.out).length ∧
 RetIs
 (AV.agg
 [AV.str s,AV.int IntKind.i64 (runS [n] (1:Int)).fst,
 AV.sl ((1:Nat)) (intsA x.out ++ [AV.int IntKind.i64 n]) Own.no])
 []
 (AV.agg
 [AV.str (arrB { src:=s,next:=(1:Int),ahead:=[] } n).src,
 AV.int IntKind.i64 (arrB { src:=s,next:=(1:Int),ahead:=[] } n).next,
 AV.sl ((1:Nat)) (intsA (arrB { src:=s,next:=(1:Int),ahead:=[] } n).ahead) Own.no],
 [])))) ∧
 (decide (n < x.fst) = false →
 (∃ (y:St38),
 ValsAre
 [AV.int IntKind.i64 n,AV.ptr ((0:Nat)) ((0:Nat)),AV.ptr ((1:Nat)) ((0:Nat)),AV.ptr ((2:Nat)) ((0:Nat)),
 AV.bool false,AV.int IntKind.i64 (0:Int)]
 [AV.int IntKind.i64 n,AV.ptr ((0:Nat)) ((0:Nat)),AV.ptr ((1:Nat)) ((0:Nat)),AV.ptr ((2:Nat)) ((0:Nat)),
 AV.bool y.pl,AV.int IntKind.i64 (↑y.i:Int)] ∧
 StIs
 { boxes:=[some [AV.str s,AV.int IntKind.i64 (1:Int),AV.sl ((0:Nat)) [] Own.nil],some [AV.str [],AV.int IntKind.i64 (0:Int),AV.sl ((0:Nat)) [] Own.nil],some [AV.str s,AV.int IntKind.i64 x.fst,AV.sl ((1:Nat)) [] (Own.tok (0:Nat))]],live:=[((0:Nat),(3:Nat))] }
 { boxes:=[some [AV.str s,AV.int IntKind.i64 (1:Int),AV.sl ((0:Nat)) [] Own.nil],some [AV.str [],AV.int IntKind.i64 (0:Int),AV.sl ((0:Nat)) [] Own.nil],some [AV.str s,AV.int IntKind.i64 (runS [n] (1:Int)).fst,AV.sl ((1:Nat)) (intsA y.out) (Own.tok ((0:Nat)))]],live:=[(y.out.length,(3:Nat))] } ∧
 (y.i≤([]:List Int).length ∧
 (y.pl = false→(runS (insI n []) (1:Int)).fst≤n) ∧
 y.out ++ remL (runS (insI n []) (1:Int)).fst n y.pl (List.drop y.i []) = (runS (insI n []) (1:Int)).snd ∧
 y.out.length≤(2:Nat) * y.i) ∧
 True) ∧
 ∀ (x:St38),
 x.i≤([]:List Int).length ∧
 (x.pl = false→(runS (insI n []) (1:Int)).fst≤n) ∧
 x.out ++ remL (runS (insI n []) (1:Int)).fst n x.pl (List.drop x.i []) = (runS (insI n []) (1:Int)).snd ∧
 x.out.length≤(2:Nat) * x.i →
 (x.pl = true →
 (decide ((↑x.i:Int) < (0:Int)) = true→((0:Int)≤(↑x.i:Int)∧(↑x.i:Int) < (0:Int))∧False) ∧
 (decide ((↑x.i:Int) < (0:Int)) = false →
 RetIs (AV.agg [AV.str s,AV.int IntKind.i64 (runS [n] (1:Int)).fst,AV.sl ((1:Nat)) (intsA x.out) Own.no]) []
 (AV.agg
 [AV.str (arrB { src:=s,next:=(1:Int),ahead:=[] } n).src,
 AV.int IntKind.i64 (arrB { src:=s,next:=(1:Int),ahead:=[] } n).next,
 AV.sl ((1:Nat)) (intsA (arrB { src:=s,next:=(1:Int),ahead:=[] } n).ahead) Own.no],
 []))) ∧
 (x.pl = false →
 (decide ((↑x.i:Int) < (0:Int)) = true→((0:Int)≤(↑x.i:Int)∧(↑x.i:Int) < (0:Int))∧False) ∧
 (decide ((↑x.i:Int) < (0:Int)) = false →
 ((1:Nat) = (1:Nat)∨intsA x.out = []) ∧
 ((intsA x.out).length + (1:Nat)) * (9:Nat)≤(70368744177664:Nat) ∧
 x.out.length = (intsA x.out).length ∧
 RetIs
 (AV.agg
 [AV.str s,AV.int IntKind.i64 (runS [n] (1:Int)).fst,
 AV.sl ((1:Nat)) (intsA x.out ++ [AV.int IntKind.i64 n]) Own.no])
 []
 (AV.agg
 [AV.str (arrB { src:=s,next:=(1:Int),ahead:=[] } n).src,
 AV.int IntKind.i64 (arrB { src:=s,next:=(1:Int),ahead:=[] } n).next,
 AV.sl ((1:Nat)) (intsA (arrB { src:=s,next:=(1:Int),ahead:=[] } n).ahead) Own.no],
 []))))))):=by kernel_rfl
end Go.Abs
namespace Go.Abs
open Go.Proofs Go.RowKit
theorem wrapN {a:Nat} (h:a < 4611686018427387904):IntKind.i64.wrap ((a:Int) + 1) = ((a + 1:Nat):Int):=by
 rw [wrap64_in (n:=(a:Int) + 1) (by omega) (by omega)]; simp
theorem p37 (m:Int) (l:List Int) (n:Int) (hl:l.length≤2000000):PureOk PI (GI m) XA (tbl []) (itbl []) (a37 l n) [] 37 [.sl 1 (intsA l) .no,.int .i64 n] (.bool (decide (n ∈ l)),[]):=by
 constructor
 rw [w37]
 refine ⟨⟨0,⟨rfl⟩,⟨rfl⟩,⟨Nat.zero_le _,by simp⟩,trivial⟩,fun x ⟨hx,hn⟩=>⟨fun h=>?_,fun h=>?_⟩⟩
 ·have h:=of_decide_eq_true h
  simp only [List.length_map] at h ⊢
  have hlt:x < l.length:=by omega
  refine ⟨⟨by omega,by omega⟩,l[x],by rw [Int.toNat_natCast]; exact take_i hlt,fun he=>?_,fun he=>⟨x + 1,⟨by rw [wrapN (by omega)]⟩,⟨rfl⟩,⟨by omega,?_⟩,by omega⟩⟩
  ·have he:l[x] = n:=by simpa using he
   exact ⟨by rw [decide_eq_true (by rw [← he]; exact List.getElem_mem hlt)]⟩
  ·have he:¬ l[x] = n:=by simpa using he
   rw [List.take_succ_eq_append_getElem hlt]
   simp only [List.mem_append,List.mem_singleton,not_or]
   exact ⟨hn,fun e=>he e.symm⟩
 ·have h:=of_decide_eq_false h
  simp only [List.length_map] at h
  have:x = l.length:=by omega
  subst this
  rw [List.take_length] at hn
  exact ⟨by rw [decide_eq_false hn]⟩
theorem p37z (m:Int) (n:Int):PureOk PI (GI m) XA (tbl []) (itbl []) (a37z n) [] 37 [.sl 0 [] .nil,.int .i64 n] (.bool false,[]):=by
 constructor
 rw [w37z]
 exact ⟨⟨(),⟨rfl⟩,⟨rfl⟩,trivial,trivial⟩,fun _ _=>⟨fun h=>(by cases h),fun _=>⟨rfl⟩⟩⟩
theorem o37 (m:Int):SpecOk PI (GI m) 37 s37:=spec_of (X:=XA) (m:=[]) mixedI tbl_nil itbl_nil fun args r h=>by
 unfold s37 at h
 split at h
 case h_2=>cases h
 split at h
 case isFalse=>cases h
 rename_i hz
 subst hz
 split at h
 case h_2=>cases h
 rename_i l hl
 split at h
 case isFalse=>cases h
 rename_i hc
 injection h with h; subst h
 obtain rfl:=unL_inv unIn_inv hl
 exact ⟨_,p37 m l _ hc⟩
theorem o37z (m:Int):SpecOk PI (GI m) 37 s37z:=spec_of (X:=XA) (m:=[]) mixedI tbl_nil itbl_nil fun args r h=>by
 unfold s37z at h
 split at h
 case h_2=>cases h
 split at h
 case isFalse=>cases h
 rename_i hz
 subst hz
 injection h with h; subst h
 exact ⟨_,p37z m _⟩
theorem agg9:aggA PI 9 = some false:=by kernel_rfl
theorem size9:(sizeA PI 9).isSome = true:=by kernel_rfl
theorem take_src {r:List BxI} {i:Nat} (h:i < r.length):takeAt PI 9 (bxsL r) i 0 = some (.str r[i].src):=by
 obtain ⟨s,hs⟩:=Option.isSome_iff_exists.1 size9
 simp only [takeAt,List.getElem?_map,List.getElem?_eq_getElem h,Option.map_some,takeA,agg9,hs]
 rfl
theorem low_lt {r:List BxI} {t:List UInt8} {x:Nat} (hx:x≤lowB r t) (hl:x < r.length) (h:Op.bytesLess (r[x]).src t = true):x + 1≤lowB r t:=by
 rcases Nat.lt_or_eq_of_le hx with h' | h'
 ·exact h'
 ·subst h'
  have:=tw_len_le (p:=fun b:BxI=>Op.bytesLess b.src t) (l:=r) (k:=lowB r t + 1) (fun i hi hk=>by
   rcases Nat.lt_or_eq_of_le (show i≤lowB r t by omega) with h1 | h1
   ·exact (tw_at (p:=fun b:BxI=>Op.bytesLess b.src t) (l:=r) h1).2
   ·subst h1; exact h) (by omega)
  exact this
theorem low_stop {r:List BxI} {t:List UInt8} {x:Nat} (hx:x≤lowB r t) (hl:x < r.length) (h:Op.bytesLess (r[x]).src t = false):x = lowB r t:=by
 rcases Nat.lt_or_eq_of_le hx with h' | h'
 ·obtain ⟨_,h2⟩:=tw_at (p:=fun b:BxI=>Op.bytesLess b.src t) (l:=r) h'
  rw [h] at h2; cases h2
 ·exact h'
theorem old_iff {r:List BxI} {t:List UInt8} (h:lowB r t < r.length):oldB r t = (r[lowB r t].src == t):=by
 unfold oldB; rw [List.getElem?_eq_getElem h]; rfl
theorem p36f (m:Int) (r:List BxI) (t:List UInt8) (hl:r.length≤2000000) (ho:oldB r t = true):PureOk PI (GI m) XA (tbl []) (itbl []) (a36 r t) [] 36 [.agg [.sl 3 (bxsL r) .no],.str t] (.tup [bxA (r.getD (lowB r t) default),.int .i64 (lowB r t),.bool true],[]):=by
 constructor
 rw [w36f]
 obtain ⟨hlt,hsrc⟩:=old_at ho
 refine ⟨⟨0,⟨rfl⟩,⟨rfl⟩,Nat.zero_le _,trivial⟩,fun x hx=>⟨fun h=>?_,fun h=>?_⟩⟩
 all_goals simp only [List.length_map] at h ⊢
 ·have h':=of_decide_eq_true h
  have hxl:x < r.length:=by omega
  refine ⟨⟨by omega,by omega⟩,_,by rw [Int.toNat_natCast]; exact take_src hxl,fun hb=>⟨x + 1,⟨by rw [wrapN (by omega)]⟩,⟨rfl⟩,low_lt hx hxl hb,by omega⟩,fun hb=>?_⟩
  have hxe:=low_stop hx hxl hb
  subst hxe
  refine ⟨fun _=>⟨⟨by omega,by omega⟩,_,by rw [Int.toNat_natCast]; exact take_src hxl,fun hs=>⟨⟨by omega,by omega⟩,_,_,_,by rw [Int.toNat_natCast]; exact take_bx hxl,⟨?_⟩⟩,fun hs=>?_⟩,fun h2=>?_⟩
  ·simp [List.getD_eq_getElem?_getD,hxl]
  ·rw [old_iff hxl] at ho; rw [ho] at hs; cases hs
  ·exact absurd h' (of_decide_eq_false h2)
 ·have h':=of_decide_eq_false h
  omega
theorem p36n (m:Int) (r:List BxI) (t:List UInt8) (hl:r.length≤2000000) (ho:oldB r t = false):PureOk PI (GI m) XA (tbl []) (itbl []) (a36 r t) [] 36 [.agg [.sl 3 (bxsL r) .no],.str t] (.tup [.agg [.str t,.int .i64 1,.sl 0 [] .nil],.int .i64 (lowB r t),.bool false],[]):=by
 constructor
 rw [w36n]
 have hle:=low_le r t
 refine ⟨⟨0,⟨rfl⟩,⟨rfl⟩,Nat.zero_le _,trivial⟩,fun x hx=>⟨fun h=>?_,fun h=>?_⟩⟩
 all_goals simp only [List.length_map] at h ⊢
 ·have h':=of_decide_eq_true h
  have hxl:x < r.length:=by omega
  refine ⟨⟨by omega,by omega⟩,_,by rw [Int.toNat_natCast]; exact take_src hxl,fun hb=>⟨x + 1,⟨by rw [wrapN (by omega)]⟩,⟨rfl⟩,low_lt hx hxl hb,by omega⟩,fun hb=>?_⟩
  have hxe:=low_stop hx hxl hb
  subst hxe
  refine ⟨fun _=>⟨⟨by omega,by omega⟩,_,by rw [Int.toNat_natCast]; exact take_src hxl,fun hs=>?_,fun hs=>⟨rfl⟩⟩,fun h2=>?_⟩
  ·rw [old_iff hxl] at ho; rw [ho] at hs; cases hs
  ·exact absurd h' (of_decide_eq_false h2)
 ·have h':=of_decide_eq_false h
  have hxe:x = lowB r t:=by omega
  subst hxe
  exact ⟨fun h2=>absurd (of_decide_eq_true h2) h',fun _=>⟨rfl⟩⟩
theorem o36f (m:Int):SpecOk PI (GI m) 36 s36f:=spec_of (X:=XA) (m:=[]) mixedI tbl_nil itbl_nil fun args r h=>by
 unfold s36f at h
 split at h
 case h_2=>cases h
 split at h
 case isFalse=>cases h
 rename_i hz
 subst hz
 split at h
 case h_2=>cases h
 rename_i r hr
 split at h
 case isFalse=>cases h
 rename_i hc
 injection h with h; subst h
 obtain rfl:=unBs_inv hr
 exact ⟨_,p36f m r _ hc.1 hc.2⟩
theorem o36n (m:Int):SpecOk PI (GI m) 36 s36n:=spec_of (X:=XA) (m:=[]) mixedI tbl_nil itbl_nil fun args r h=>by
 unfold s36n at h
 split at h
 case h_2=>cases h
 split at h
 case isFalse=>cases h
 rename_i hz
 subst hz
 split at h
 case h_2=>cases h
 rename_i r hr
 split at h
 case isFalse=>cases h
 rename_i hc
 injection h with h; subst h
 obtain rfl:=unBs_inv hr
 exact ⟨_,p36n m r _ hc.1 hc.2⟩
theorem remT_cons (nx n a:Int) (t:List Int):remL nx n true (a :: t) = (if nx≤a then [a] else []) ++ remL nx n true t:=by
 simp only [remL,if_true,List.filter_cons,decide_eq_true_eq]
 split <;> rfl
theorem remF_gt {nx n a:Int} {t:List Int} (h:n < a) (hn:nx≤n):remL nx n false (a :: t) = [n] ++ ((if nx≤a then [a] else []) ++ remL nx n true t):=by
 rw [← remT_cons]
 simp only [remL,Bool.false_eq_true,if_false,if_true,insI]
 rw [if_pos h,List.filter_cons_of_pos (by simpa using hn)]; rfl
theorem remF_le {nx n a:Int} {t:List Int} (h:¬ n < a):remL nx n false (a :: t) = (if nx≤a then [a] else []) ++ remL nx n false t:=by
 simp only [remL,Bool.false_eq_true,if_false,insI]
 rw [if_neg h,List.filter_cons]
 simp only [decide_eq_true_eq]
 split <;> rfl
theorem remT_nil (nx n:Int):remL nx n true [] = []:=rfl
theorem remF_nil {nx n:Int} (hn:nx≤n):remL nx n false [] = [n]:=by
 simp only [remL,Bool.false_eq_true,if_false,insI]
 rw [List.filter_cons_of_pos (by simpa using hn)]; rfl
theorem sorted_ext {a b:List Int} (ha:a.Pairwise (· < ·)) (hb:b.Pairwise (· < ·)) (h:∀ y,y ∈ a ↔ y ∈ b):a = b:=by
 have h1:=sortZ_of (ha.imp fun h=>by omega) hb h
 have h2:=sortZ_of (ha.imp fun h=>by omega) ha fun y=>Iff.rfl
 rw [← h2,h1]
theorem end38 {l:List Int} {n x0 x:Int} {T:List Int} (hs:l.Pairwise (· < ·)) (hn:n ∉ l) (h:I21 (insI n l) x0 ⟨T,x,T⟩) (hJ:∀ y,x≤y→(y ∈ insI n l ↔ y ∈ T)):T = remL x n (decide (n < x)) l:=by
 have hS:=insI_sorted hs hn
 have hT:T = (insI n l).filter fun y=>decide (x≤y):=by
  refine sorted_ext h.2.2.1 (hS.filter _) fun y=>?_
  simp only [List.mem_filter,decide_eq_true_eq]
  constructor
  ·intro hy
   have:=h.2.2.2.1 y hy
   exact ⟨(hJ y this).2 hy,this⟩
  ·rintro ⟨h1,h2⟩
   exact (hJ y h2).1 h1
 by_cases hlt:n < x
 ·rw [decide_eq_true hlt,hT]
  show _ = l.filter fun y=>decide (x≤y)
  refine sorted_ext (hS.filter _) (hs.filter _) fun y=>?_
  simp only [List.mem_filter,decide_eq_true_eq,mem_insI]
  constructor
  ·rintro ⟨rfl | h1,h2⟩
   ·omega
   ·exact ⟨h1,h2⟩
  ·rintro ⟨h1,h2⟩
   exact ⟨.inr h1,h2⟩
 ·rw [decide_eq_false hlt,hT]; rfl
theorem step38 {l:List Int} {n x0 x:Int} {T:List Int} (h:I21 (insI n l) x0 ⟨T,x,T⟩) (hJ:∀ y,x≤y→(y ∈ insI n l ↔ y ∈ T)) (hx:x ∈ insI n l):∃ T',T = x :: T'∧I21 (insI n l) x0 ⟨T',x + 1,T'⟩∧∀ y,x + 1≤y→(y ∈ insI n l ↔ y ∈ T'):=by
 have hT:=(hJ x (Int.le_refl _)).1 hx
 obtain ⟨T',h1,h2⟩:=I21_step h hT
 simp only at h1
 refine ⟨T',h1,⟨h2.2.2.1.imp fun h=>by omega,fun y=>Iff.rfl,h2.2.2⟩,fun y hy=>?_⟩
 rw [hJ y (by omega),h1,List.mem_cons]
 constructor
 ·rintro (e | e)
  ·omega
  ·exact e
 ·exact .inr
theorem c37 {l:List Int} {n:Int} {t:List (FuncId × Spec)} (hl:l.length≤2000000):tbl ((37,s37) :: t) 37 [.sl 1 (intsA l) .no,.int .i64 n] = some (.bool (decide (n ∈ l)),[]):=by
 rw [tbl_hit]
 simp only [s37,if_true,unIs_ok]
 rw [if_pos hl]
set_option maxHeartbeats 4000000 in
theorem p38 (m:Int) (s:List UInt8) (x0:Int) (l:List Int) (n:Int) (hok:BoxP ⟨s,x0,l⟩) (hx0:x0≤n) (hnT:n≤maxT) (hn:n ∉ l) :
  PureOk PI (GI m) XA (tbl [(37,s37)]) (itbl []) (a38 s x0 (.sl 1 (intsA l) .no) l n) [] 38 [.agg [.str s,.int .i64 x0,.sl 1 (intsA l) .no],.int .i64 n] (bxA (arrB ⟨s,x0,l⟩ n),[]):=by
 constructor
 rw [w38]
 have h64:l.length≤64:=hok.len
 have hlo:1≤x0:=hok.lo
 have hhi:x0≤maxT + 1:=hok.hi
 have hasc:l.Pairwise (· < ·):=hok.asc
 have hall:∀ x ∈ l,x0 < x∧x≤x0 + 64∧x≤maxT:=hok.all
 unfold maxT at hnT hhi hall
 have hst:=I21_start hasc (fun x hx=>(hall x hx).1) hn hx0 (by omega) (by omega)
 obtain ⟨nx,hnx⟩:∃ nx,(runS (insI n l) x0).1 = nx:=⟨_,rfl⟩
 obtain ⟨Tx,hTx⟩:∃ Tx,(runS (insI n l) x0).2 = Tx:=⟨_,rfl⟩
 have harr:arrB ⟨s,x0,l⟩ n = ⟨s,nx,Tx⟩:=by simp only [arrB,nextB,hnx,hTx]
 rw [harr,hnx,hTx]
 have hloop:∀ z:St38,z.i≤l.length∧(z.pl = false→nx≤n)∧z.out ++ remL nx n z.pl (l.drop z.i) = Tx∧z.out.length≤2 * z.i→z.i < l.length→∀ (q:z.i < l.length),
   (z.pl = true→z.out ++ ((if nx≤l[z.i] then [l[z.i]] else []) ++ remL nx n true (l.drop (z.i + 1))) = Tx) ∧
   (z.pl = false→n < l[z.i]→z.out ++ ([n] ++ ((if nx≤l[z.i] then [l[z.i]] else []) ++ remL nx n true (l.drop (z.i + 1)))) = Tx) ∧
   (z.pl = false→¬ n < l[z.i]→z.out ++ ((if nx≤l[z.i] then [l[z.i]] else []) ++ remL nx n false (l.drop (z.i + 1))) = Tx):=fun z ⟨_,z2,z3,_⟩ hzl q=>by
  rw [List.drop_eq_getElem_cons hzl] at z3
  refine ⟨fun hp=>?_,fun hp h=>?_,fun hp h=>?_⟩
  ·rw [hp,remT_cons] at z3; exact z3
  ·rw [hp,remF_gt h (z2 hp)] at z3; exact z3
  ·rw [hp,remF_le h] at z3; exact z3
 refine ⟨⟨(x0,insI n l),⟨rfl⟩,⟨rfl⟩,⟨⟨hst.2.2.1.imp fun h=>by omega,fun y=>Iff.rfl,hst.2.2⟩,fun y _=>Iff.rfl⟩,trivial⟩,fun x hx=>⟨fun h=>?_,fun h=>⟨decide (x.1 ∈ l),⟨c37 (by omega)⟩,fun hb=>?_,fun hb=>⟨fun hlt=>⟨⟨⟨0,true,[]⟩,⟨rfl⟩,⟨?_⟩,⟨Nat.zero_le _,fun h=>(by cases h),?_,Nat.zero_le _⟩,trivial⟩,fun z hz=>?_⟩,fun hlt=>⟨⟨⟨0,false,[]⟩,⟨rfl⟩,⟨?_⟩,⟨Nat.zero_le _,fun _=>?_,?_,Nat.zero_le _⟩,trivial⟩,fun z hz=>?_⟩⟩⟩⟩⟩
 all_goals try obtain ⟨x,T⟩:=x
 all_goals try simp only at hx h hb hlt ⊢
 ·have he:x = n:=by simpa using h
  obtain ⟨T',h1,h2,h3⟩:=step38 hx.1 hx.2 (mem_insI.2 (.inl he))
  have b1:=hx.1.2.2.2.2.2.1
  have b2:=hx.1.2.2.2.2.2.2
  refine ⟨(x + 1,T'),⟨rfl⟩,⟨?_⟩,⟨h2,h3⟩,by rw [h1]; simp⟩
  simp only at b1 b2
  rw [wrap64_in (n:=x + 1) (by omega) (by omega)]
 ·have he:x ∈ l:=of_decide_eq_true hb
  obtain ⟨T',h1,h2,h3⟩:=step38 hx.1 hx.2 (mem_insI.2 (.inr he))
  have b1:=hx.1.2.2.2.2.2.1
  have b2:=hx.1.2.2.2.2.2.2
  refine ⟨(x + 1,T'),⟨rfl⟩,⟨?_⟩,⟨h2,h3⟩,by rw [h1]; simp⟩
  simp only at b1 b2
  rw [wrap64_in (n:=x + 1) (by omega) (by omega)]
 all_goals
  have hxS:x ∉ insI n l:=fun hm=>by
   rcases mem_insI.1 hm with e | e
   ·subst e; simp at h
   ·exact of_decide_eq_false hb e
  have hE:=(I21_end hx.1 (fun hm=>hxS ((hx.2 x (Int.le_refl _)).2 hm))).1
  simp only at hE
  have e1:x = nx:=by rw [← hnx,hE]
  have e2:T = Tx:=by rw [← hTx,hE]
  subst e1; subst e2
  have hrem:=end38 hasc hn hx.1 hx.2
 ·rfl
 ·have hlt:=of_decide_eq_true hlt
  rw [decide_eq_true hlt] at hrem
  exact hrem.symm
 rotate_left 1
 ·rfl
 ·have hlt:=of_decide_eq_false hlt
  omega
 ·have hlt:=of_decide_eq_false hlt
  rw [decide_eq_false hlt] at hrem
  exact hrem.symm
 all_goals
  obtain ⟨z1,z2,z3,z4⟩:=hz
  have hlen:(intsA l).length = l.length:=List.length_map ..
  have hlo2:(intsA z.out).length = z.out.length:=List.length_map ..
  refine ⟨fun hp=>⟨fun h=>?_,fun h=>?_⟩,fun hp=>⟨fun h=>?_,fun h=>?_⟩⟩
  ·have h:=of_decide_eq_true h
   rw [hlen] at h
   have hil:z.i < l.length:=by omega
   obtain ⟨r1,_,_⟩:=hloop z ⟨z1,z2,z3,z4⟩ hil hil
   have r1:=r1 hp
   refine ⟨⟨by omega,by rw [hlen]; omega⟩,l[z.i],by rw [Int.toNat_natCast]; exact take_i hil,fun ha=>⟨⟨by omega,by rw [hlen]; omega⟩,l[z.i],by rw [Int.toNat_natCast]; exact take_i hil,.inl (by first | trivial | rfl),by rw [hlo2]; omega,hlo2.symm,⟨z.i + 1,true,z.out ++ [l[z.i]]⟩,⟨by rw [wrapN (by omega)]⟩,⟨by simp⟩,⟨by show z.i + 1≤_; omega,fun h=>(by cases h),?_,by simp; omega⟩,by simp only; omega⟩,fun ha=>⟨⟨z.i + 1,true,z.out⟩,⟨by rw [wrapN (by omega)]⟩,⟨rfl⟩,⟨by show z.i + 1≤_; omega,fun h=>(by cases h),?_,by simp only; omega⟩,by simp only; omega⟩⟩
   ·rw [if_pos (of_decide_eq_true ha)] at r1
    simpa using r1
   ·rw [if_neg (of_decide_eq_false ha)] at r1
    simpa using r1
  ·have h:=of_decide_eq_false h
   rw [hlen] at h
   have hil:z.i = l.length:=by omega
   rw [hp,hil,List.drop_length,remT_nil,List.append_nil] at z3
   rw [z3]; exact ⟨rfl⟩
  ·have h:=of_decide_eq_true h
   rw [hlen] at h
   have hil:z.i < l.length:=by omega
   obtain ⟨_,r2,r3⟩:=hloop z ⟨z1,z2,z3,z4⟩ hil hil
   refine ⟨⟨by omega,by rw [hlen]; omega⟩,l[z.i],by rw [Int.toNat_natCast]; exact take_i hil,fun ha=>⟨.inl (by first | trivial | rfl),by rw [hlo2]; omega,hlo2.symm,⟨by omega,by rw [hlen]; omega⟩,l[z.i],by rw [Int.toNat_natCast]; exact take_i hil,fun hc=>⟨⟨by omega,by rw [hlen]; omega⟩,l[z.i],by rw [Int.toNat_natCast]; exact take_i hil,.inl (by first | trivial | rfl),by simp; omega,by simp,⟨z.i + 1,true,z.out ++ [n] ++ [l[z.i]]⟩,⟨by rw [wrapN (by omega)]⟩,⟨by simp⟩,⟨by show z.i + 1≤_; omega,fun h=>(by cases h),?_,by simp; omega⟩,by simp only; omega⟩,
    fun hc=>⟨⟨z.i + 1,true,z.out ++ [n]⟩,⟨by rw [wrapN (by omega)]⟩,⟨by simp⟩,⟨by show z.i + 1≤_; omega,fun h=>(by cases h),?_,by simp; omega⟩,by simp only; omega⟩⟩,
    fun ha=>⟨⟨by omega,by rw [hlen]; omega⟩,l[z.i],by rw [Int.toNat_natCast]; exact take_i hil,fun hc=>⟨⟨by omega,by rw [hlen]; omega⟩,l[z.i],by rw [Int.toNat_natCast]; exact take_i hil,.inl (by first | trivial | rfl),by rw [hlo2]; omega,hlo2.symm,⟨z.i + 1,false,z.out ++ [l[z.i]]⟩,⟨by rw [wrapN (by omega)]⟩,⟨by simp⟩,⟨by show z.i + 1≤_; omega,fun _=>z2 hp,?_,by simp; omega⟩,by simp only; omega⟩,
    fun hc=>⟨⟨z.i + 1,false,z.out⟩,⟨by rw [wrapN (by omega)]⟩,⟨rfl⟩,⟨by show z.i + 1≤_; omega,fun _=>z2 hp,?_,by simp only; omega⟩,by simp only; omega⟩⟩⟩
   ·have r2:=r2 hp (of_decide_eq_true ha)
    rw [if_pos (of_decide_eq_true hc)] at r2
    simpa using r2
   ·have r2:=r2 hp (of_decide_eq_true ha)
    rw [if_neg (of_decide_eq_false hc)] at r2
    simpa using r2
   ·have r3:=r3 hp (of_decide_eq_false ha)
    rw [if_pos (of_decide_eq_true hc)] at r3
    simpa using r3
   ·have r3:=r3 hp (of_decide_eq_false ha)
    rw [if_neg (of_decide_eq_false hc)] at r3
    simpa using r3
  ·have h:=of_decide_eq_false h
   rw [hlen] at h
   have hil:z.i = l.length:=by omega
   rw [hp,hil,List.drop_length,remF_nil (z2 hp)] at z3
   refine ⟨.inl (by first | trivial | rfl),by rw [hlo2]; omega,hlo2.symm,⟨?_⟩⟩
   rw [← z3]; simp
set_option maxHeartbeats 4000000 in
theorem p38z (m:Int) (s:List UInt8) (n:Int) (hx0:1≤n) (hnT:n≤maxT) :
  PureOk PI (GI m) XA (tbl [(37,s37z)]) (itbl []) (a38 s 1 (.sl 0 [] .nil) [] n) [] 38 [.agg [.str s,.int .i64 1,.sl 0 [] .nil],.int .i64 n] (bxA (arrB ⟨s,1,[]⟩ n),[]):=by
 constructor
 rw [w38z]
 unfold maxT at hnT
 have hst:=I21_start (ahead:=[]) (n:=n) (x0:=1) List.Pairwise.nil (fun x hx=>by cases hx) (by simp) hx0 (by omega) (by simp)
 have hrw:runS [n] 1 = runS (insI n []) 1:=rfl
 rw [hrw]
 obtain ⟨nx,hnx⟩:∃ nx,(runS (insI n []) 1).1 = nx:=⟨_,rfl⟩
 obtain ⟨Tx,hTx⟩:∃ Tx,(runS (insI n []) 1).2 = Tx:=⟨_,rfl⟩
 have harr:arrB ⟨s,1,[]⟩ n = ⟨s,nx,Tx⟩:=by simp only [arrB,nextB,hnx,hTx]
 rw [harr,hnx,hTx]
 refine ⟨⟨(1,insI n []),⟨rfl⟩,⟨rfl⟩,⟨⟨hst.2.2.1.imp fun h=>by omega,fun y=>Iff.rfl,hst.2.2⟩,fun y _=>Iff.rfl⟩,trivial⟩,fun x hx=>⟨fun h=>?_,fun h=>⟨false,⟨rfl⟩,fun hb=>?_,fun hb=>⟨fun hlt=>⟨⟨⟨0,true,[]⟩,⟨rfl⟩,⟨?_⟩,⟨Nat.zero_le _,fun h=>(by cases h),?_,Nat.zero_le _⟩,trivial⟩,fun z hz=>?_⟩,fun hlt=>⟨⟨⟨0,false,[]⟩,⟨rfl⟩,⟨?_⟩,⟨Nat.zero_le _,fun _=>?_,?_,Nat.zero_le _⟩,trivial⟩,fun z hz=>?_⟩⟩⟩⟩⟩
 all_goals try obtain ⟨x,T⟩:=x
 all_goals try simp only at hx h hb hlt ⊢
 ·have he:x = n:=by simpa using h
  obtain ⟨T',h1,h2,h3⟩:=step38 hx.1 hx.2 (mem_insI.2 (.inl he))
  have b1:=hx.1.2.2.2.2.2.1
  have b2:=hx.1.2.2.2.2.2.2
  refine ⟨(x + 1,T'),⟨rfl⟩,⟨?_⟩,⟨h2,h3⟩,by rw [h1]; simp⟩
  simp only at b1 b2
  rw [wrap64_in (n:=x + 1) (by omega) (by omega)]
 ·cases hb
 all_goals
  have hxS:x ∉ insI n []:=fun hm=>by
   rcases mem_insI.1 hm with e | e
   ·subst e; simp at h
   ·cases e
  have hE:=(I21_end hx.1 (fun hm=>hxS ((hx.2 x (Int.le_refl _)).2 hm))).1
  simp only at hE
  have e1:x = nx:=by rw [← hnx,hE]
  have e2:T = Tx:=by rw [← hTx,hE]
  subst e1; subst e2
  have hrem:=end38 List.Pairwise.nil (by simp) hx.1 hx.2
 ·rfl
 ·have hlt:=of_decide_eq_true hlt
  rw [decide_eq_true hlt] at hrem
  exact hrem.symm
 rotate_left 1
 ·rfl
 ·have hlt:=of_decide_eq_false hlt
  omega
 ·have hlt:=of_decide_eq_false hlt
  rw [decide_eq_false hlt] at hrem
  exact hrem.symm
 all_goals
  obtain ⟨z1,z2,z3,z4⟩:=hz
  have hlo2:(intsA z.out).length = z.out.length:=List.length_map ..
  have hz0:z.i = 0:=by simpa using z1
  refine ⟨fun hp=>⟨fun h=>?_,fun h=>?_⟩,fun hp=>⟨fun h=>?_,fun h=>?_⟩⟩
  ·have:=of_decide_eq_true h
   omega
  ·rw [hp,hz0,List.drop_nil,remT_nil,List.append_nil] at z3
   rw [z3]; exact ⟨rfl⟩
  ·have:=of_decide_eq_true h
   omega
  ·rw [hp,hz0,List.drop_nil,remF_nil (z2 hp)] at z3
   refine ⟨.inl (by first | trivial | rfl),by rw [hlo2]; omega,hlo2.symm,⟨?_⟩⟩
   rw [← z3]; simp
theorem o38 (m:Int):SpecOk PI (GI m) 38 s38:=spec_of (X:=XA) (m:=[]) mixedI (tbl_cons (o37 m) tbl_nil) itbl_nil fun args r h=>by
 unfold s38 at h
 split at h
 case h_2=>cases h
 split at h
 case isFalse=>cases h
 rename_i hz
 subst hz
 split at h
 case h_2=>cases h
 rename_i l hl
 split at h
 case isFalse=>cases h
 rename_i hc
 injection h with h; subst h
 obtain rfl:=unL_inv unIn_inv hl
 exact ⟨_,p38 m _ _ l _ (boxOk_iff.1 hc.1) hc.2.1 hc.2.2.1 hc.2.2.2⟩
theorem o38z (m:Int):SpecOk PI (GI m) 38 s38z:=spec_of (X:=XA) (m:=[]) mixedI (tbl_cons (o37z m) tbl_nil) itbl_nil fun args r h=>by
 unfold s38z at h
 split at h
 case h_2=>cases h
 split at h
 case isFalse=>cases h
 rename_i hz
 obtain ⟨rfl,rfl,h1,h2⟩:=hz
 injection h with h; subst h
 exact ⟨_,p38z m _ _ h1 h2⟩
end Go.Abs
namespace Go.Abs
open Go.Proofs
theorem w11f (m:Int) (r:List BxI) (p:PkQ) (kind ref ev:Int) (tab key:List UInt8) (sz:Nat) (es:List AV) (o:Own):(pureW PI (GI m) XA (tbl [(35,s27),(36,s36f),(37,s37),(38,s38)]) (itbl []) nAn [] 11 [.agg [.sl 3 (bxsL r) .no],.agg (pkC p kind ref ev tab key (.sl sz es o))] (recvR (recvP r p))) =
((p.ack = true →
    RetIs
      (AV.tup
        [AV.agg [AV.sl ((0:Nat)) [] Own.nil],AV.bool false,
 AV.agg
 [AV.str [],AV.bool false,AV.int IntKind.i64 (0:Int),AV.str [],AV.int IntKind.i64 (0:Int),AV.int IntKind.i64 (0:Int),
 AV.int IntKind.i64 (0:Int),AV.str [],AV.str [],AV.int IntKind.i64 (0:Int),AV.sl ((0:Nat)) [] Own.nil],
 AV.int IntKind.i64 (1:Int)])
      [] (recvR (recvP r p))) ∧
  (p.ack = false →
    ∃ (b:Bool),
      CallIs (tbl [((35:Nat),s27),((36:Nat),s36f),((37:Nat),s37),((38:Nat),s38)] ((35:Nat)) [AV.str p.src]) (AV.bool b) [] ∧
        (b = true →
 ((!p.fsrc == p.src) = true →
 RetIs
 (AV.tup
 [AV.agg [AV.sl ((0:Nat)) [] Own.nil],AV.bool false,
 AV.agg
 [AV.str [],AV.bool false,AV.int IntKind.i64 (0:Int),AV.str [],AV.int IntKind.i64 (0:Int),AV.int IntKind.i64 (0:Int),
 AV.int IntKind.i64 (0:Int),AV.str [],AV.str [],AV.int IntKind.i64 (0:Int),AV.sl ((0:Nat)) [] Own.nil],
 AV.int IntKind.i64 (1:Int)])
 [] (recvR (recvP r p))) ∧
 ((!p.fsrc == p.src) = false →
 ((p.next != (0:Int)) = true →
 RetIs
 (AV.tup
 [AV.agg [AV.sl ((0:Nat)) [] Own.nil],AV.bool false,
 AV.agg
 [AV.str [],AV.bool false,AV.int IntKind.i64 (0:Int),AV.str [],AV.int IntKind.i64 (0:Int),AV.int IntKind.i64 (0:Int),
 AV.int IntKind.i64 (0:Int),AV.str [],AV.str [],AV.int IntKind.i64 (0:Int),AV.sl ((0:Nat)) [] Own.nil],
 AV.int IntKind.i64 (1:Int)])
 [] (recvR (recvP r p))) ∧
 ((p.next != (0:Int)) = false →
 (decide (p.seq < (1:Int)) = true →
 RetIs
 (AV.tup
 [AV.agg [AV.sl ((0:Nat)) [] Own.nil],AV.bool false,
 AV.agg
 [AV.str [],AV.bool false,AV.int IntKind.i64 (0:Int),AV.str [],AV.int IntKind.i64 (0:Int),AV.int IntKind.i64 (0:Int),
 AV.int IntKind.i64 (0:Int),AV.str [],AV.str [],AV.int IntKind.i64 (0:Int),AV.sl ((0:Nat)) [] Own.nil],
 AV.int IntKind.i64 (1:Int)])
 [] (recvR (recvP r p))) ∧
 (decide (p.seq < (1:Int)) = false →
 (decide (p.seq > (1099511627776:Int)) = true →
 RetIs
 (AV.tup
 [AV.agg [AV.sl ((0:Nat)) [] Own.nil],AV.bool false,
 AV.agg
 [AV.str [],AV.bool false,AV.int IntKind.i64 (0:Int),AV.str [],AV.int IntKind.i64 (0:Int),
 AV.int IntKind.i64 (0:Int),AV.int IntKind.i64 (0:Int),AV.str [],AV.str [],AV.int IntKind.i64 (0:Int),
 AV.sl ((0:Nat)) [] Own.nil],
 AV.int IntKind.i64 (1:Int)])
 [] (recvR (recvP r p))) ∧
 (decide (p.seq > (1099511627776:Int)) = false →
 ∃ (s:List UInt8),
 ∃ (n:Int),
 ∃ (es:List AV),
 ∃ (n_1:Int),
 CallIs
 (tbl [((35:Nat),s27),((36:Nat),s36f),((37:Nat),s37),((38:Nat),s38)] ((36:Nat))
 [AV.agg [AV.sl ((3:Nat)) (bxsL r) Own.no],AV.str p.src])
 (AV.tup [AV.agg [AV.str s,AV.int IntKind.i64 n,AV.sl ((1:Nat)) es Own.no],AV.int IntKind.i64 n_1,AV.bool true])
 [] ∧
 (true = true →
 (decide (p.seq > IntKind.i64.wrap (n + (64:Int))) = true →
 RetIs
 (AV.tup
 [AV.agg [AV.sl ((0:Nat)) [] Own.nil],AV.bool false,
 AV.agg
 [AV.str [],AV.bool false,AV.int IntKind.i64 (0:Int),AV.str [],AV.int IntKind.i64 (0:Int),
 AV.int IntKind.i64 (0:Int),AV.int IntKind.i64 (0:Int),AV.str [],AV.str [],
 AV.int IntKind.i64 (0:Int),AV.sl ((0:Nat)) [] Own.nil],
 AV.int IntKind.i64 (410:Int)])
 [] (recvR (recvP r p))) ∧
 (decide (p.seq > IntKind.i64.wrap (n + (64:Int))) = false →
 (decide (p.seq < n) = true →
 RetIs
 (AV.tup
 [AV.agg [AV.sl ((3:Nat)) (bxsL r) Own.no],AV.bool false,
 AV.agg
 [AV.str p.src,AV.bool true,AV.int IntKind.i64 n,AV.str [],AV.int IntKind.i64 (0:Int),
 AV.int IntKind.i64 (0:Int),AV.int IntKind.i64 (0:Int),AV.str [],AV.str [],
 AV.int IntKind.i64 (0:Int),AV.sl ((0:Nat)) [] Own.nil],
 AV.int IntKind.i64 (0:Int)])
 [] (recvR (recvP r p))) ∧
 (decide (p.seq < n) = false →
 ∃ (b:Bool),
 CallIs
 (tbl [((35:Nat),s27),((36:Nat),s36f),((37:Nat),s37),((38:Nat),s38)] ((37:Nat))
 [AV.sl ((1:Nat)) es Own.no,AV.int IntKind.i64 p.seq])
 (AV.bool b) [] ∧
 (b = true →
 RetIs
 (AV.tup
 [AV.agg [AV.sl ((3:Nat)) (bxsL r) Own.no],AV.bool false,
 AV.agg
 [AV.str p.src,AV.bool true,AV.int IntKind.i64 n,AV.str [],AV.int IntKind.i64 (0:Int),
 AV.int IntKind.i64 (0:Int),AV.int IntKind.i64 (0:Int),AV.str [],AV.str [],
 AV.int IntKind.i64 (0:Int),AV.sl ((0:Nat)) [] Own.nil],
 AV.int IntKind.i64 (0:Int)])
 [] (recvR (recvP r p))) ∧
 (b = false →
 ∃ (s_1:List UInt8),
 ∃ (n_2:Int),
 ∃ (es_1:List AV),
 CallIs
 (tbl [((35:Nat),s27),((36:Nat),s36f),((37:Nat),s37),((38:Nat),s38)]
 ((38:Nat))
 [AV.agg [AV.str s,AV.int IntKind.i64 n,AV.sl ((1:Nat)) es Own.no],
 AV.int IntKind.i64 p.seq])
 (AV.agg [AV.str s_1,AV.int IntKind.i64 n_2,AV.sl ((1:Nat)) es_1 Own.no]) [] ∧
 (0:Int)≤n_1 ∧
 (n_1.toNat≤(bxsL r).length∧(bxsL r).length≤(bxsL r).length) ∧
 ((3:Nat) = (3:Nat)∨bxsL r = []) ∧
 (0:Int)≤IntKind.i64.wrap (n_1 + (1:Int)) ∧
 ((IntKind.i64.wrap (n_1 + (1:Int))).toNat≤(bxsL r).length ∧
 (bxsL r).length≤(bxsL r).length) ∧
 ((3:Nat) = (3:Nat)∨bxsL r = []) ∧
 (0:Int)≤n_1 ∧
 ((0:Nat)≤n_1.toNat∧n_1.toNat≤(bxsL r).length) ∧
 ((3:Nat) = (3:Nat)∨bxsL r = []) ∧
 ((3:Nat) = (3:Nat)∨([]:List AV) = []) ∧
 ((0:Nat) +
 (List.drop ((0:Nat)) (List.take n_1.toNat (bxsL r))).length) *
 (49:Nat) ≤
 (70368744177664:Nat) ∧
 (List.drop ((0:Nat)) (List.take n_1.toNat (bxsL r)) = [] →
 ((3:Nat) = (3:Nat)∨([]:List AV) = []) ∧
 ((0:Nat) + (1:Nat)) * (49:Nat)≤(70368744177664:Nat) ∧
 ((3:Nat) = (3:Nat) ∨
 [AV.agg
 [AV.str s_1,AV.int IntKind.i64 n_2,
 AV.sl ((1:Nat)) es_1 Own.no]] =
 []) ∧
 ((1:Nat) +
 (List.drop (IntKind.i64.wrap (n_1 + (1:Int))).toNat
 (List.take (bxsL r).length (bxsL r))).length) *
 (49:Nat) ≤
 (70368744177664:Nat) ∧
 (1:Nat) = (1:Nat) ∧
 RetIs
 (AV.tup
 [AV.agg
 [AV.sl ((3:Nat))
 ([AV.agg
 [AV.str s_1,AV.int IntKind.i64 n_2,
 AV.sl ((1:Nat)) es_1 Own.no]] ++
 List.drop
 (IntKind.i64.wrap (n_1 + (1:Int))).toNat
 (List.take (bxsL r).length (bxsL r)))
 Own.no],
 AV.bool true,
 AV.agg
 [AV.str p.src,AV.bool true,
 AV.int IntKind.i64 n_2,AV.str [],
 AV.int IntKind.i64 (0:Int),
 AV.int IntKind.i64 (0:Int),
 AV.int IntKind.i64 (0:Int),AV.str [],
 AV.str [],AV.int IntKind.i64 (0:Int),
 AV.sl ((0:Nat)) [] Own.nil],
 AV.int IntKind.i64 (0:Int)])
 [] (recvR (recvP r p))) ∧
 (List.drop ((0:Nat)) (List.take n_1.toNat (bxsL r)) ≠ [] →
 ((3:Nat) = (3:Nat) ∨
 [] ++ List.drop ((0:Nat)) (List.take n_1.toNat (bxsL r)) =
 []) ∧
 (([] ++
 List.drop ((0:Nat))
 (List.take n_1.toNat (bxsL r))).length +
 (1:Nat)) *
 (49:Nat) ≤
 (70368744177664:Nat) ∧
 (0:Nat) +
 (List.drop ((0:Nat))
 (List.take n_1.toNat (bxsL r))).length =
 ([] ++
 List.drop ((0:Nat))
 (List.take n_1.toNat (bxsL r))).length ∧
 ((3:Nat) = (3:Nat) ∨
 [] ++
 List.drop ((0:Nat))
 (List.take n_1.toNat (bxsL r)) ++
 [AV.agg
 [AV.str s_1,AV.int IntKind.i64 n_2,
 AV.sl ((1:Nat)) es_1 Own.no]] =
 []) ∧
 (([] ++
 List.drop ((0:Nat))
 (List.take n_1.toNat (bxsL r)) ++
 [AV.agg
 [AV.str s_1,AV.int IntKind.i64 n_2,
 AV.sl ((1:Nat)) es_1 Own.no]]).length +
 (List.drop
 (IntKind.i64.wrap (n_1 + (1:Int))).toNat
 (List.take (bxsL r).length (bxsL r))).length) *
 (49:Nat) ≤
 (70368744177664:Nat) ∧
 ([] ++
 List.drop ((0:Nat))
 (List.take n_1.toNat (bxsL r))).length +
 (1:Nat) =
 ([] ++
 List.drop ((0:Nat))
 (List.take n_1.toNat (bxsL r)) ++
 [AV.agg
 [AV.str s_1,AV.int IntKind.i64 n_2,
 AV.sl ((1:Nat)) es_1 Own.no]]).length ∧
 RetIs
 (AV.tup
 [AV.agg
 [AV.sl ((3:Nat))
 ([] ++
 List.drop ((0:Nat))
 (List.take n_1.toNat (bxsL r)) ++
 [AV.agg
 [AV.str s_1,AV.int IntKind.i64 n_2,
 AV.sl ((1:Nat)) es_1 Own.no]] ++
 List.drop
 (IntKind.i64.wrap
 (n_1 + (1:Int))).toNat
 (List.take (bxsL r).length (bxsL r)))
 Own.no],
 AV.bool true,
 AV.agg
 [AV.str p.src,AV.bool true,
 AV.int IntKind.i64 n_2,AV.str [],
 AV.int IntKind.i64 (0:Int),
 AV.int IntKind.i64 (0:Int),
 AV.int IntKind.i64 (0:Int),AV.str [],
 AV.str [],AV.int IntKind.i64 (0:Int),
 AV.sl ((0:Nat)) [] Own.nil],
 AV.int IntKind.i64 (0:Int)])
 [] (recvR (recvP r p))))))) ∧
 (true = false →
 (decide ((↑(bxsL r).length:Int) ≥ (16:Int)) = true →
 RetIs
 (AV.tup
 [AV.agg [AV.sl ((0:Nat)) [] Own.nil],AV.bool false,
 AV.agg
 [AV.str [],AV.bool false,AV.int IntKind.i64 (0:Int),AV.str [],AV.int IntKind.i64 (0:Int),
 AV.int IntKind.i64 (0:Int),AV.int IntKind.i64 (0:Int),AV.str [],AV.str [],
 AV.int IntKind.i64 (0:Int),AV.sl ((0:Nat)) [] Own.nil],
 AV.int IntKind.i64 (2:Int)])
 [] (recvR (recvP r p))) ∧
 (decide ((↑(bxsL r).length:Int) ≥ (16:Int)) = false →
 (decide (p.seq > IntKind.i64.wrap (n + (64:Int))) = true →
 RetIs
 (AV.tup
 [AV.agg [AV.sl ((0:Nat)) [] Own.nil],AV.bool false,
 AV.agg
 [AV.str [],AV.bool false,AV.int IntKind.i64 (0:Int),AV.str [],AV.int IntKind.i64 (0:Int),
 AV.int IntKind.i64 (0:Int),AV.int IntKind.i64 (0:Int),AV.str [],AV.str [],
 AV.int IntKind.i64 (0:Int),AV.sl ((0:Nat)) [] Own.nil],
 AV.int IntKind.i64 (410:Int)])
 [] (recvR (recvP r p))) ∧
 (decide (p.seq > IntKind.i64.wrap (n + (64:Int))) = false →
 (decide (p.seq < n) = true →
 RetIs
 (AV.tup
 [AV.agg [AV.sl ((3:Nat)) (bxsL r) Own.no],AV.bool false,
 AV.agg
 [AV.str p.src,AV.bool true,AV.int IntKind.i64 n,AV.str [],AV.int IntKind.i64 (0:Int),
 AV.int IntKind.i64 (0:Int),AV.int IntKind.i64 (0:Int),AV.str [],AV.str [],
 AV.int IntKind.i64 (0:Int),AV.sl ((0:Nat)) [] Own.nil],
 AV.int IntKind.i64 (0:Int)])
 [] (recvR (recvP r p))) ∧
 (decide (p.seq < n) = false →
 ∃ (b:Bool),
 CallIs
 (tbl [((35:Nat),s27),((36:Nat),s36f),((37:Nat),s37),((38:Nat),s38)] ((37:Nat))
 [AV.sl ((1:Nat)) es Own.no,AV.int IntKind.i64 p.seq])
 (AV.bool b) [] ∧
 (b = true →
 RetIs
 (AV.tup
 [AV.agg [AV.sl ((3:Nat)) (bxsL r) Own.no],AV.bool false,
 AV.agg
 [AV.str p.src,AV.bool true,AV.int IntKind.i64 n,AV.str [],
 AV.int IntKind.i64 (0:Int),AV.int IntKind.i64 (0:Int),
 AV.int IntKind.i64 (0:Int),AV.str [],AV.str [],AV.int IntKind.i64 (0:Int),
 AV.sl ((0:Nat)) [] Own.nil],
 AV.int IntKind.i64 (0:Int)])
 [] (recvR (recvP r p))) ∧
 (b = false →
 ∃ (s_1:List UInt8),
 ∃ (n_2:Int),
 ∃ (es_1:List AV),
 CallIs
 (tbl [((35:Nat),s27),((36:Nat),s36f),((37:Nat),s37),((38:Nat),s38)]
 ((38:Nat))
 [AV.agg [AV.str s,AV.int IntKind.i64 n,AV.sl ((1:Nat)) es Own.no],
 AV.int IntKind.i64 p.seq])
 (AV.agg [AV.str s_1,AV.int IntKind.i64 n_2,AV.sl ((1:Nat)) es_1 Own.no]) [] ∧
 (0:Int)≤n_1 ∧
 (n_1.toNat≤(bxsL r).length∧(bxsL r).length≤(bxsL r).length) ∧
 ((3:Nat) = (3:Nat)∨bxsL r = []) ∧
 (0:Int)≤n_1 ∧
 ((0:Nat)≤n_1.toNat∧n_1.toNat≤(bxsL r).length) ∧
 ((3:Nat) = (3:Nat)∨bxsL r = []) ∧
 ((3:Nat) = (3:Nat)∨([]:List AV) = []) ∧
 ((0:Nat) +
 (List.drop ((0:Nat)) (List.take n_1.toNat (bxsL r))).length) *
 (49:Nat) ≤
 (70368744177664:Nat) ∧
 (List.drop ((0:Nat)) (List.take n_1.toNat (bxsL r)) = [] →
 ((3:Nat) = (3:Nat)∨([]:List AV) = []) ∧
 ((0:Nat) + (1:Nat)) * (49:Nat)≤(70368744177664:Nat) ∧
 ((3:Nat) = (3:Nat) ∨
 [AV.agg
 [AV.str s_1,AV.int IntKind.i64 n_2,
 AV.sl ((1:Nat)) es_1 Own.no]] =
 []) ∧
 ((1:Nat) +
 (List.drop n_1.toNat
 (List.take (bxsL r).length (bxsL r))).length) *
 (49:Nat) ≤
 (70368744177664:Nat) ∧
 (1:Nat) = (1:Nat) ∧
 RetIs
 (AV.tup
 [AV.agg
 [AV.sl ((3:Nat))
 ([AV.agg
 [AV.str s_1,AV.int IntKind.i64 n_2,
 AV.sl ((1:Nat)) es_1 Own.no]] ++
 List.drop n_1.toNat
 (List.take (bxsL r).length (bxsL r)))
 Own.no],
 AV.bool true,
 AV.agg
 [AV.str p.src,AV.bool true,AV.int IntKind.i64 n_2,
 AV.str [],AV.int IntKind.i64 (0:Int),
 AV.int IntKind.i64 (0:Int),
 AV.int IntKind.i64 (0:Int),AV.str [],
 AV.str [],AV.int IntKind.i64 (0:Int),
 AV.sl ((0:Nat)) [] Own.nil],
 AV.int IntKind.i64 (0:Int)])
 [] (recvR (recvP r p))) ∧
 (List.drop ((0:Nat)) (List.take n_1.toNat (bxsL r)) ≠ [] →
 ((3:Nat) = (3:Nat) ∨
 [] ++ List.drop ((0:Nat)) (List.take n_1.toNat (bxsL r)) = []) ∧
 (([] ++
 List.drop ((0:Nat))
 (List.take n_1.toNat (bxsL r))).length +
 (1:Nat)) *
 (49:Nat) ≤
 (70368744177664:Nat) ∧
 (0:Nat) +
 (List.drop ((0:Nat))
 (List.take n_1.toNat (bxsL r))).length =
 ([] ++
 List.drop ((0:Nat))
 (List.take n_1.toNat (bxsL r))).length ∧
 ((3:Nat) = (3:Nat) ∨
 [] ++
 List.drop ((0:Nat))
 (List.take n_1.toNat (bxsL r)) ++
 [AV.agg
 [AV.str s_1,AV.int IntKind.i64 n_2,
 AV.sl ((1:Nat)) es_1 Own.no]] =
 []) ∧
 (([] ++
 List.drop ((0:Nat))
 (List.take n_1.toNat (bxsL r)) ++
 [AV.agg
 [AV.str s_1,AV.int IntKind.i64 n_2,
 AV.sl ((1:Nat)) es_1 Own.no]]).length +
 (List.drop n_1.toNat
 (List.take (bxsL r).length (bxsL r))).length) *
 (49:Nat) ≤
 (70368744177664:Nat) ∧
 ([] ++
 List.drop ((0:Nat))
 (List.take n_1.toNat (bxsL r))).length +
 (1:Nat) =
 ([] ++
 List.drop ((0:Nat))
 (List.take n_1.toNat (bxsL r)) ++
 [AV.agg
 [AV.str s_1,AV.int IntKind.i64 n_2,
 AV.sl ((1:Nat)) es_1 Own.no]]).length ∧
 RetIs
 (AV.tup
 [AV.agg
 [AV.sl ((3:Nat))
 ([] ++
 List.drop ((0:Nat))
 (List.take n_1.toNat (bxsL r)) ++
 [AV.agg
 [AV.str s_1,AV.int IntKind.i64 n_2,
 AV.sl ((1:Nat)) es_1 Own.no]] ++
 List.drop n_1.toNat
 (List.take (bxsL r).length (bxsL r)))
 Own.no],
 AV.bool true,
 AV.agg
 [AV.str p.src,AV.bool true,
 AV.int IntKind.i64 n_2,AV.str [],
 AV.int IntKind.i64 (0:Int),
 AV.int IntKind.i64 (0:Int),
 AV.int IntKind.i64 (0:Int),AV.str [],
 AV.str [],AV.int IntKind.i64 (0:Int),
 AV.sl ((0:Nat)) [] Own.nil],
 AV.int IntKind.i64 (0:Int)])
 [] (recvR (recvP r p))))))))))))) ∧
 (b = false →
 RetIs
 (AV.tup
 [AV.agg [AV.sl ((0:Nat)) [] Own.nil],AV.bool false,
 AV.agg
 [AV.str [],AV.bool false,AV.int IntKind.i64 (0:Int),AV.str [],AV.int IntKind.i64 (0:Int),AV.int IntKind.i64 (0:Int),
 AV.int IntKind.i64 (0:Int),AV.str [],AV.str [],AV.int IntKind.i64 (0:Int),AV.sl ((0:Nat)) [] Own.nil],
 AV.int IntKind.i64 (1:Int)])
 [] (recvR (recvP r p))))):=by kernel_rfl
theorem w11n (m:Int) (r:List BxI) (p:PkQ) (kind ref ev:Int) (tab key:List UInt8) (sz:Nat) (es:List AV) (o:Own):(pureW PI (GI m) XB (tbl [(35,s27),(36,s36n),(37,s37z),(38,s38z)]) (itbl []) nAn [] 11 [.agg [.sl 3 (bxsL r) .no],.agg (pkC p kind ref ev tab key (.sl sz es o))] (recvR (recvP r p))) =
((p.ack = true →
    RetIs
      (AV.tup
        [AV.agg [AV.sl ((0:Nat)) [] Own.nil],AV.bool false,
 AV.agg
 [AV.str [],AV.bool false,AV.int IntKind.i64 (0:Int),AV.str [],AV.int IntKind.i64 (0:Int),AV.int IntKind.i64 (0:Int),
 AV.int IntKind.i64 (0:Int),AV.str [],AV.str [],AV.int IntKind.i64 (0:Int),AV.sl ((0:Nat)) [] Own.nil],
 AV.int IntKind.i64 (1:Int)])
      [] (recvR (recvP r p))) ∧
  (p.ack = false →
    ∃ (b:Bool),
      CallIs (tbl [((35:Nat),s27),((36:Nat),s36n),((37:Nat),s37z),((38:Nat),s38z)] ((35:Nat)) [AV.str p.src]) (AV.bool b) [] ∧
        (b = true →
 ((!p.fsrc == p.src) = true →
 RetIs
 (AV.tup
 [AV.agg [AV.sl ((0:Nat)) [] Own.nil],AV.bool false,
 AV.agg
 [AV.str [],AV.bool false,AV.int IntKind.i64 (0:Int),AV.str [],AV.int IntKind.i64 (0:Int),AV.int IntKind.i64 (0:Int),
 AV.int IntKind.i64 (0:Int),AV.str [],AV.str [],AV.int IntKind.i64 (0:Int),AV.sl ((0:Nat)) [] Own.nil],
 AV.int IntKind.i64 (1:Int)])
 [] (recvR (recvP r p))) ∧
 ((!p.fsrc == p.src) = false →
 ((p.next != (0:Int)) = true →
 RetIs
 (AV.tup
 [AV.agg [AV.sl ((0:Nat)) [] Own.nil],AV.bool false,
 AV.agg
 [AV.str [],AV.bool false,AV.int IntKind.i64 (0:Int),AV.str [],AV.int IntKind.i64 (0:Int),AV.int IntKind.i64 (0:Int),
 AV.int IntKind.i64 (0:Int),AV.str [],AV.str [],AV.int IntKind.i64 (0:Int),AV.sl ((0:Nat)) [] Own.nil],
 AV.int IntKind.i64 (1:Int)])
 [] (recvR (recvP r p))) ∧
 ((p.next != (0:Int)) = false →
 (decide (p.seq < (1:Int)) = true →
 RetIs
 (AV.tup
 [AV.agg [AV.sl ((0:Nat)) [] Own.nil],AV.bool false,
 AV.agg
 [AV.str [],AV.bool false,AV.int IntKind.i64 (0:Int),AV.str [],AV.int IntKind.i64 (0:Int),AV.int IntKind.i64 (0:Int),
 AV.int IntKind.i64 (0:Int),AV.str [],AV.str [],AV.int IntKind.i64 (0:Int),AV.sl ((0:Nat)) [] Own.nil],
 AV.int IntKind.i64 (1:Int)])
 [] (recvR (recvP r p))) ∧
 (decide (p.seq < (1:Int)) = false →
 (decide (p.seq > (1099511627776:Int)) = true →
 RetIs
 (AV.tup
 [AV.agg [AV.sl ((0:Nat)) [] Own.nil],AV.bool false,
 AV.agg
 [AV.str [],AV.bool false,AV.int IntKind.i64 (0:Int),AV.str [],AV.int IntKind.i64 (0:Int),
 AV.int IntKind.i64 (0:Int),AV.int IntKind.i64 (0:Int),AV.str [],AV.str [],AV.int IntKind.i64 (0:Int),
 AV.sl ((0:Nat)) [] Own.nil],
 AV.int IntKind.i64 (1:Int)])
 [] (recvR (recvP r p))) ∧
 (decide (p.seq > (1099511627776:Int)) = false →
 ∃ (s:List UInt8),
 ∃ (n:Int),
 CallIs
 (tbl [((35:Nat),s27),((36:Nat),s36n),((37:Nat),s37z),((38:Nat),s38z)] ((36:Nat))
 [AV.agg [AV.sl ((3:Nat)) (bxsL r) Own.no],AV.str p.src])
 (AV.tup
 [AV.agg [AV.str s,AV.int IntKind.i64 (1:Int),AV.sl ((0:Nat)) [] Own.nil],AV.int IntKind.i64 n,AV.bool false])
 [] ∧
 (false = true →
 (decide (p.seq > (65:Int)) = true →
 RetIs
 (AV.tup
 [AV.agg [AV.sl ((0:Nat)) [] Own.nil],AV.bool false,
 AV.agg
 [AV.str [],AV.bool false,AV.int IntKind.i64 (0:Int),AV.str [],AV.int IntKind.i64 (0:Int),
 AV.int IntKind.i64 (0:Int),AV.int IntKind.i64 (0:Int),AV.str [],AV.str [],
 AV.int IntKind.i64 (0:Int),AV.sl ((0:Nat)) [] Own.nil],
 AV.int IntKind.i64 (410:Int)])
 [] (recvR (recvP r p))) ∧
 (decide (p.seq > (65:Int)) = false →
 (decide (p.seq < (1:Int)) = true →
 RetIs
 (AV.tup
 [AV.agg [AV.sl ((3:Nat)) (bxsL r) Own.no],AV.bool false,
 AV.agg
 [AV.str p.src,AV.bool true,AV.int IntKind.i64 (1:Int),AV.str [],AV.int IntKind.i64 (0:Int),
 AV.int IntKind.i64 (0:Int),AV.int IntKind.i64 (0:Int),AV.str [],AV.str [],
 AV.int IntKind.i64 (0:Int),AV.sl ((0:Nat)) [] Own.nil],
 AV.int IntKind.i64 (0:Int)])
 [] (recvR (recvP r p))) ∧
 (decide (p.seq < (1:Int)) = false →
 ∃ (b:Bool),
 CallIs (some (AV.bool false,[])) (AV.bool b) [] ∧
 (b = true →
 RetIs
 (AV.tup
 [AV.agg [AV.sl ((3:Nat)) (bxsL r) Own.no],AV.bool false,
 AV.agg
 [AV.str p.src,AV.bool true,AV.int IntKind.i64 (1:Int),AV.str [],
 AV.int IntKind.i64 (0:Int),AV.int IntKind.i64 (0:Int),AV.int IntKind.i64 (0:Int),
 AV.str [],AV.str [],AV.int IntKind.i64 (0:Int),AV.sl ((0:Nat)) [] Own.nil],
 AV.int IntKind.i64 (0:Int)])
 [] (recvR (recvP r p))) ∧
 (b = false →
 ∃ (s_1:List UInt8),
 ∃ (n_1:Int),
 ∃ (es:List AV),
 CallIs
 (tbl [((35:Nat),s27),((36:Nat),s36n),((37:Nat),s37z),((38:Nat),s38z)]
 ((38:Nat))
 [AV.agg [AV.str s,AV.int IntKind.i64 (1:Int),AV.sl ((0:Nat)) [] Own.nil],
 AV.int IntKind.i64 p.seq])
 (AV.agg [AV.str s_1,AV.int IntKind.i64 n_1,AV.sl ((1:Nat)) es Own.no]) [] ∧
 (0:Int)≤n ∧
 (n.toNat≤(bxsL r).length∧(bxsL r).length≤(bxsL r).length) ∧
 ((3:Nat) = (3:Nat)∨bxsL r = []) ∧
 (0:Int)≤IntKind.i64.wrap (n + (1:Int)) ∧
 ((IntKind.i64.wrap (n + (1:Int))).toNat≤(bxsL r).length ∧
 (bxsL r).length≤(bxsL r).length) ∧
 ((3:Nat) = (3:Nat)∨bxsL r = []) ∧
 (0:Int)≤n ∧
 ((0:Nat)≤n.toNat∧n.toNat≤(bxsL r).length) ∧
 ((3:Nat) = (3:Nat)∨bxsL r = []) ∧
 ((3:Nat) = (3:Nat)∨([]:List AV) = []) ∧
 ((0:Nat) + (List.drop ((0:Nat)) (List.take n.toNat (bxsL r))).length) *
 (49:Nat) ≤
 (70368744177664:Nat) ∧
 (List.drop ((0:Nat)) (List.take n.toNat (bxsL r)) = [] →
 ((3:Nat) = (3:Nat)∨([]:List AV) = []) ∧
 ((0:Nat) + (1:Nat)) * (49:Nat)≤(70368744177664:Nat) ∧
 ((3:Nat) = (3:Nat) ∨
 [AV.agg
 [AV.str s_1,AV.int IntKind.i64 n_1,
 AV.sl ((1:Nat)) es Own.no]] =
 []) ∧
 ((1:Nat) +
 (List.drop (IntKind.i64.wrap (n + (1:Int))).toNat
 (List.take (bxsL r).length (bxsL r))).length) *
 (49:Nat) ≤
 (70368744177664:Nat) ∧
 (1:Nat) = (1:Nat) ∧
 RetIs
 (AV.tup
 [AV.agg
 [AV.sl ((3:Nat))
 ([AV.agg
 [AV.str s_1,AV.int IntKind.i64 n_1,
 AV.sl ((1:Nat)) es Own.no]] ++
 List.drop
 (IntKind.i64.wrap (n + (1:Int))).toNat
 (List.take (bxsL r).length (bxsL r)))
 Own.no],
 AV.bool true,
 AV.agg
 [AV.str p.src,AV.bool true,AV.int IntKind.i64 n_1,
 AV.str [],AV.int IntKind.i64 (0:Int),
 AV.int IntKind.i64 (0:Int),
 AV.int IntKind.i64 (0:Int),AV.str [],AV.str [],
 AV.int IntKind.i64 (0:Int),
 AV.sl ((0:Nat)) [] Own.nil],
 AV.int IntKind.i64 (0:Int)])
 [] (recvR (recvP r p))) ∧
 (List.drop ((0:Nat)) (List.take n.toNat (bxsL r)) ≠ [] →
 ((3:Nat) = (3:Nat) ∨
 [] ++ List.drop ((0:Nat)) (List.take n.toNat (bxsL r)) = []) ∧
 (([] ++ List.drop ((0:Nat)) (List.take n.toNat (bxsL r))).length +
 (1:Nat)) *
 (49:Nat) ≤
 (70368744177664:Nat) ∧
 (0:Nat) +
 (List.drop ((0:Nat)) (List.take n.toNat (bxsL r))).length =
 ([] ++
 List.drop ((0:Nat)) (List.take n.toNat (bxsL r))).length ∧
 ((3:Nat) = (3:Nat) ∨
 [] ++ List.drop ((0:Nat)) (List.take n.toNat (bxsL r)) ++
 [AV.agg
 [AV.str s_1,AV.int IntKind.i64 n_1,
 AV.sl ((1:Nat)) es Own.no]] =
 []) ∧
 (([] ++ List.drop ((0:Nat)) (List.take n.toNat (bxsL r)) ++
 [AV.agg
 [AV.str s_1,AV.int IntKind.i64 n_1,
 AV.sl ((1:Nat)) es Own.no]]).length +
 (List.drop (IntKind.i64.wrap (n + (1:Int))).toNat
 (List.take (bxsL r).length (bxsL r))).length) *
 (49:Nat) ≤
 (70368744177664:Nat) ∧
 ([] ++
 List.drop ((0:Nat))
 (List.take n.toNat (bxsL r))).length +
 (1:Nat) =
 ([] ++
 List.drop ((0:Nat))
 (List.take n.toNat (bxsL r)) ++
 [AV.agg
 [AV.str s_1,AV.int IntKind.i64 n_1,
 AV.sl ((1:Nat)) es Own.no]]).length ∧
 RetIs
 (AV.tup
 [AV.agg
 [AV.sl ((3:Nat))
 ([] ++
 List.drop ((0:Nat))
 (List.take n.toNat (bxsL r)) ++
 [AV.agg
 [AV.str s_1,AV.int IntKind.i64 n_1,
 AV.sl ((1:Nat)) es Own.no]] ++
 List.drop
 (IntKind.i64.wrap (n + (1:Int))).toNat
 (List.take (bxsL r).length (bxsL r)))
 Own.no],
 AV.bool true,
 AV.agg
 [AV.str p.src,AV.bool true,AV.int IntKind.i64 n_1,
 AV.str [],AV.int IntKind.i64 (0:Int),
 AV.int IntKind.i64 (0:Int),
 AV.int IntKind.i64 (0:Int),AV.str [],
 AV.str [],AV.int IntKind.i64 (0:Int),
 AV.sl ((0:Nat)) [] Own.nil],
 AV.int IntKind.i64 (0:Int)])
 [] (recvR (recvP r p))))))) ∧
 (false = false →
 (decide ((↑(bxsL r).length:Int) ≥ (16:Int)) = true →
 RetIs
 (AV.tup
 [AV.agg [AV.sl ((0:Nat)) [] Own.nil],AV.bool false,
 AV.agg
 [AV.str [],AV.bool false,AV.int IntKind.i64 (0:Int),AV.str [],AV.int IntKind.i64 (0:Int),
 AV.int IntKind.i64 (0:Int),AV.int IntKind.i64 (0:Int),AV.str [],AV.str [],
 AV.int IntKind.i64 (0:Int),AV.sl ((0:Nat)) [] Own.nil],
 AV.int IntKind.i64 (2:Int)])
 [] (recvR (recvP r p))) ∧
 (decide ((↑(bxsL r).length:Int) ≥ (16:Int)) = false →
 (decide (p.seq > (65:Int)) = true →
 RetIs
 (AV.tup
 [AV.agg [AV.sl ((0:Nat)) [] Own.nil],AV.bool false,
 AV.agg
 [AV.str [],AV.bool false,AV.int IntKind.i64 (0:Int),AV.str [],AV.int IntKind.i64 (0:Int),
 AV.int IntKind.i64 (0:Int),AV.int IntKind.i64 (0:Int),AV.str [],AV.str [],
 AV.int IntKind.i64 (0:Int),AV.sl ((0:Nat)) [] Own.nil],
 AV.int IntKind.i64 (410:Int)])
 [] (recvR (recvP r p))) ∧
 (decide (p.seq > (65:Int)) = false →
 (decide (p.seq < (1:Int)) = true →
 RetIs
 (AV.tup
 [AV.agg [AV.sl ((3:Nat)) (bxsL r) Own.no],AV.bool false,
 AV.agg
 [AV.str p.src,AV.bool true,AV.int IntKind.i64 (1:Int),AV.str [],AV.int IntKind.i64 (0:Int),
 AV.int IntKind.i64 (0:Int),AV.int IntKind.i64 (0:Int),AV.str [],AV.str [],
 AV.int IntKind.i64 (0:Int),AV.sl ((0:Nat)) [] Own.nil],
 AV.int IntKind.i64 (0:Int)])
 [] (recvR (recvP r p))) ∧
 (decide (p.seq < (1:Int)) = false →
 ∃ (b:Bool),
 CallIs (some (AV.bool false,[])) (AV.bool b) [] ∧
 (b = true →
 RetIs
 (AV.tup
 [AV.agg [AV.sl ((3:Nat)) (bxsL r) Own.no],AV.bool false,
 AV.agg
 [AV.str p.src,AV.bool true,AV.int IntKind.i64 (1:Int),AV.str [],
 AV.int IntKind.i64 (0:Int),AV.int IntKind.i64 (0:Int),AV.int IntKind.i64 (0:Int),
 AV.str [],AV.str [],AV.int IntKind.i64 (0:Int),AV.sl ((0:Nat)) [] Own.nil],
 AV.int IntKind.i64 (0:Int)])
 [] (recvR (recvP r p))) ∧
 (b = false →
 ∃ (s_1:List UInt8),
 ∃ (n_1:Int),
 ∃ (es:List AV),
 CallIs
 (tbl [((35:Nat),s27),((36:Nat),s36n),((37:Nat),s37z),((38:Nat),s38z)]
 ((38:Nat))
 [AV.agg [AV.str s,AV.int IntKind.i64 (1:Int),AV.sl ((0:Nat)) [] Own.nil],
 AV.int IntKind.i64 p.seq])
 (AV.agg [AV.str s_1,AV.int IntKind.i64 n_1,AV.sl ((1:Nat)) es Own.no]) [] ∧
 (0:Int)≤n ∧
 (n.toNat≤(bxsL r).length∧(bxsL r).length≤(bxsL r).length) ∧
 ((3:Nat) = (3:Nat)∨bxsL r = []) ∧
 (0:Int)≤n ∧
 ((0:Nat)≤n.toNat∧n.toNat≤(bxsL r).length) ∧
 ((3:Nat) = (3:Nat)∨bxsL r = []) ∧
 ((3:Nat) = (3:Nat)∨([]:List AV) = []) ∧
 ((0:Nat) + (List.drop ((0:Nat)) (List.take n.toNat (bxsL r))).length) *
 (49:Nat) ≤
 (70368744177664:Nat) ∧
 (List.drop ((0:Nat)) (List.take n.toNat (bxsL r)) = [] →
 ((3:Nat) = (3:Nat)∨([]:List AV) = []) ∧
 ((0:Nat) + (1:Nat)) * (49:Nat)≤(70368744177664:Nat) ∧
 ((3:Nat) = (3:Nat) ∨
 [AV.agg
 [AV.str s_1,AV.int IntKind.i64 n_1,
 AV.sl ((1:Nat)) es Own.no]] =
 []) ∧
 ((1:Nat) +
 (List.drop n.toNat
 (List.take (bxsL r).length (bxsL r))).length) *
 (49:Nat) ≤
 (70368744177664:Nat) ∧
 (1:Nat) = (1:Nat) ∧
 RetIs
 (AV.tup
 [AV.agg
 [AV.sl ((3:Nat))
 ([AV.agg
 [AV.str s_1,AV.int IntKind.i64 n_1,
 AV.sl ((1:Nat)) es Own.no]] ++
 List.drop n.toNat
 (List.take (bxsL r).length (bxsL r)))
 Own.no],
 AV.bool true,
 AV.agg
 [AV.str p.src,AV.bool true,AV.int IntKind.i64 n_1,
 AV.str [],AV.int IntKind.i64 (0:Int),
 AV.int IntKind.i64 (0:Int),
 AV.int IntKind.i64 (0:Int),AV.str [],AV.str [],
 AV.int IntKind.i64 (0:Int),
 AV.sl ((0:Nat)) [] Own.nil],
 AV.int IntKind.i64 (0:Int)])
 [] (recvR (recvP r p))) ∧
 (List.drop ((0:Nat)) (List.take n.toNat (bxsL r)) ≠ [] →
 ((3:Nat) = (3:Nat) ∨
 [] ++ List.drop ((0:Nat)) (List.take n.toNat (bxsL r)) = []) ∧
 (([] ++ List.drop ((0:Nat)) (List.take n.toNat (bxsL r))).length +
 (1:Nat)) *
 (49:Nat) ≤
 (70368744177664:Nat) ∧
 (0:Nat) +
 (List.drop ((0:Nat)) (List.take n.toNat (bxsL r))).length =
 ([] ++
 List.drop ((0:Nat)) (List.take n.toNat (bxsL r))).length ∧
 ((3:Nat) = (3:Nat) ∨
 [] ++ List.drop ((0:Nat)) (List.take n.toNat (bxsL r)) ++
 [AV.agg
 [AV.str s_1,AV.int IntKind.i64 n_1,
 AV.sl ((1:Nat)) es Own.no]] =
 []) ∧
 (([] ++ List.drop ((0:Nat)) (List.take n.toNat (bxsL r)) ++
 [AV.agg
 [AV.str s_1,AV.int IntKind.i64 n_1,
 AV.sl ((1:Nat)) es Own.no]]).length +
 (List.drop n.toNat
 (List.take (bxsL r).length (bxsL r))).length) *
 (49:Nat) ≤
 (70368744177664:Nat) ∧
 ([] ++
 List.drop ((0:Nat))
 (List.take n.toNat (bxsL r))).length +
 (1:Nat) =
 ([] ++ List.drop ((0:Nat)) (List.take n.toNat (bxsL r)) ++
 [AV.agg
 [AV.str s_1,AV.int IntKind.i64 n_1,
 AV.sl ((1:Nat)) es Own.no]]).length ∧
 RetIs
 (AV.tup
 [AV.agg
 [AV.sl ((3:Nat))
 ([] ++
 List.drop ((0:Nat))
 (List.take n.toNat (bxsL r)) ++
 [AV.agg
 [AV.str s_1,AV.int IntKind.i64 n_1,
 AV.sl ((1:Nat)) es Own.no]] ++
 List.drop n.toNat
 (List.take (bxsL r).length (bxsL r)))
 Own.no],
 AV.bool true,
 AV.agg
 [AV.str p.src,AV.bool true,AV.int IntKind.i64 n_1,
 AV.str [],AV.int IntKind.i64 (0:Int),
 AV.int IntKind.i64 (0:Int),
 AV.int IntKind.i64 (0:Int),AV.str [],AV.str [],
 AV.int IntKind.i64 (0:Int),
 AV.sl ((0:Nat)) [] Own.nil],
 AV.int IntKind.i64 (0:Int)])
 [] (recvR (recvP r p))))))))))))) ∧
 (b = false →
 RetIs
 (AV.tup
 [AV.agg [AV.sl ((0:Nat)) [] Own.nil],AV.bool false,
 AV.agg
 [AV.str [],AV.bool false,AV.int IntKind.i64 (0:Int),AV.str [],AV.int IntKind.i64 (0:Int),AV.int IntKind.i64 (0:Int),
 AV.int IntKind.i64 (0:Int),AV.str [],AV.str [],AV.int IntKind.i64 (0:Int),AV.sl ((0:Nat)) [] Own.nil],
 AV.int IntKind.i64 (1:Int)])
 [] (recvR (recvP r p))))):=by kernel_rfl
end Go.Abs
namespace Go.Abs
open Go.Proofs Go.RowKit
theorem badP_of' {p:PkQ} (h1:p.ack = false) (h2:(p.next != 0) = false) (h3:nameR p.src = true) (h4:(!p.fsrc == p.src) = false) (h5:decide (p.seq < 1) = false) (h6:decide (p.seq > 1099511627776) = false):badP p = false:=by
 have h4':(p.fsrc != p.src) = false:=h4
 simp [badP,h1,h2,h3,h4',h5]
 have:=of_decide_eq_false h6
 unfold maxT; omega
theorem c35 {s:List UInt8} {l:List (FuncId × Spec)} (h:s.length≤2000000):tbl ((35,s27) :: l) 35 [.str s] = some (.bool (nameR s),[]):=by
 rw [tbl_hit]; simp only [s27]; rw [if_pos (by omega)]
set_option maxHeartbeats 4000000 in
theorem p11f (m:Int) (r:List BxI) (p:PkQ) (kind ref ev:Int) (tab key:List UInt8) (sz:Nat) (es:List AV) (o:Own) (hp:p.src.length≤2000000) (hr:rcvOk r = true) (ho:oldB r p.src = true) :
  PureOk PI (GI m) XA (tbl [(35,s27),(36,s36f),(37,s37),(38,s38)]) (itbl []) nAn [] 11 [.agg [.sl 3 (bxsL r) .no],.agg (pkC p kind ref ev tab key (.sl sz es o))] (recvR (recvP r p)):=by
 obtain ⟨hlt,hsrc⟩:=old_at ho
 simp only [rcvOk,Bool.and_eq_true,decide_eq_true_eq,List.all_eq_true] at hr
 obtain ⟨⟨hall,hs⟩,hlen⟩:=hr
 obtain ⟨b,hb⟩:∃ b,r[lowB r p.src] = b:=⟨_,rfl⟩
 have hbk:=hall b (hb ▸ List.getElem_mem hlt)
 have hB:BoxP b:=boxOk_iff.1 hbk
 have h64:=hB.len
 have hgd:r.getD (lowB r p.src) default = b:=by
  rw [List.getD_eq_getElem?_getD,List.getElem?_eq_getElem hlt,hb]; rfl
 have hbO:bOf r p.src = b:=by
  unfold bOf
  rw [if_pos ho,hgd]
 have hb1:=hB.lo
 have hb2:=hB.hi
 unfold maxT at hb2
 constructor
 rw [w11f]
 refine ⟨fun h=>ret_bad (by simp [badP,h]),fun h1=>⟨nameR p.src,⟨c35 hp⟩,fun h3=>⟨fun h=>ret_bad ?_,fun h4=>⟨fun h=>ret_bad (by simp [badP,h]),fun h2=>⟨fun h=>ret_bad (by simp [badP,h]),fun h5=>⟨fun h=>ret_bad ?_,fun h6=>⟨b.src,b.next,intsA b.ahead,(lowB r p.src:Int),⟨?_⟩,fun _=>?_,fun h=>(by cases h)⟩⟩⟩⟩⟩,fun h=>ret_bad (by simp [badP,h])⟩⟩
 ·have:(p.fsrc != p.src) = true:=h
  simp [badP,this]
 ·have:decide (maxT < p.seq) = true:=h
  simp [badP,this]
 ·rw [tbl_miss (by decide),tbl_hit]
  simp only [s36f,if_true,unBs_ok]
  rw [if_pos ⟨by omega,ho⟩,hgd]; rfl
 have hbad:=badP_of' h1 h2 h3 h4 h5 h6
 have hq1:1≤p.seq:=by simpa using h5
 have hq2:p.seq≤1099511627776:=by simpa using h6
 have hlenb:(bxsL r).length = r.length:=by simp
 have e64:IntKind.i64.wrap (b.next + 64) = b.next + 64:=wrap64_in (by omega) (by omega)
 have hrec:recvP r p = if b.next + 64 < p.seq then .err 410 else if p.seq < b.next∨p.seq ∈ b.ahead then .out r false p.src b.next
   else .out (r.take (lowB r p.src) ++ [arrB b p.seq] ++ r.drop (lowB r p.src + 1)) true p.src (nextB b p.seq):=by
  simp only [recvP,hbad,ho,hbO,Bool.not_true,Bool.false_and,Bool.false_eq_true,if_false,if_true]
 rw [e64]
 refine ⟨fun h=>?_,fun h7=>⟨fun h8=>?_,fun h8=>⟨decide (p.seq ∈ b.ahead),⟨?_⟩,fun h9=>?_,fun h9=>?_⟩⟩⟩
 ·have h:=of_decide_eq_true h
  exact ⟨by rw [hrec,if_pos (by omega)]; rfl⟩
 ·have h7:=of_decide_eq_false h7
  have h8:=of_decide_eq_true h8
  exact ⟨by rw [hrec,if_neg (by omega),if_pos (.inl h8)]; rfl⟩
 ·rw [tbl_miss (by decide),tbl_miss (by decide)]; exact c37 (by omega)
 ·have h7:=of_decide_eq_false h7
  exact ⟨by rw [hrec,if_neg (by omega),if_pos (.inr (of_decide_eq_true h9))]; rfl⟩
 ·have h7:=of_decide_eq_false h7
  have h8:=of_decide_eq_false h8
  have h9:=of_decide_eq_false h9
  have harr:(arrB b p.seq).next = nextB b p.seq:=rfl
  have ew:IntKind.i64.wrap ((lowB r p.src:Int) + 1) = ((lowB r p.src + 1:Nat):Int):=wrapN (by omega)
  rw [ew]
  simp only [Int.toNat_natCast,List.drop_zero,List.nil_append,Nat.zero_add,hlenb]
  have htl:List.take r.length (bxsL r) = bxsL r:=List.take_of_length_le (by simp)
  rw [htl]
  have ht:(List.take (lowB r p.src) (bxsL r)).length≤16:=by rw [List.length_take,hlenb]; omega
  have hd:(List.drop (lowB r p.src + 1) (bxsL r)).length≤16:=by rw [List.length_drop,hlenb]; omega
  have hout:recvR (recvP r p) = (.tup [.agg [.sl 3 (List.take (lowB r p.src) (bxsL r) ++ [bxA (arrB b p.seq)] ++ List.drop (lowB r p.src + 1) (bxsL r)) .no],.bool true,.agg (ackPC p.src (nextB b p.seq)),.int .i64 0],[]):=by
   rw [hrec,if_neg (by omega),if_neg (fun h=>h.elim h8 h9)]
   simp only [recvR,rcA,bxsL,List.map_append,List.map_take,List.map_drop,List.map_cons,List.map_nil]
  refine ⟨(arrB b p.seq).src,(arrB b p.seq).next,intsA (arrB b p.seq).ahead,⟨?_⟩,by omega,⟨by omega,by omega⟩,.inl (by first | trivial | rfl),by omega,⟨by omega,by omega⟩,.inl (by first | trivial | rfl),by omega,⟨by omega,by omega⟩,.inl (by first | trivial | rfl),.inl (by first | trivial | rfl),by omega,fun he=>⟨.inl (by first | trivial | rfl),by first | trivial | omega,.inl (by first | trivial | rfl),by omega,(by first | trivial | rfl),⟨?_⟩⟩,fun he=>⟨.inl (by first | trivial | rfl),by omega,(by first | trivial | rfl),.inl (by first | trivial | rfl),by simp only [List.length_append,List.length_singleton]; omega,by first | trivial | simp,⟨?_⟩⟩⟩
  ·rw [tbl_miss (by decide),tbl_miss (by decide),tbl_miss (by decide),tbl_hit]
   simp only [s38,if_true,unIs_ok]
   rw [if_pos ⟨hbk,by omega,hq2,h9⟩]; rfl
  ·rw [hout,he]; rfl
  ·rw [hout]; rfl
set_option maxHeartbeats 4000000 in
theorem p11n (m:Int) (r:List BxI) (p:PkQ) (kind ref ev:Int) (tab key:List UInt8) (sz:Nat) (es:List AV) (o:Own) (hp:p.src.length≤2000000) (hr:rcvOk r = true) (ho:oldB r p.src = false) :
  PureOk PI (GI m) XB (tbl [(35,s27),(36,s36n),(37,s37z),(38,s38z)]) (itbl []) nAn [] 11 [.agg [.sl 3 (bxsL r) .no],.agg (pkC p kind ref ev tab key (.sl sz es o))] (recvR (recvP r p)):=by
 have hlow:=low_le r p.src
 simp only [rcvOk,Bool.and_eq_true,decide_eq_true_eq,List.all_eq_true] at hr
 obtain ⟨⟨hall,hs⟩,hlen⟩:=hr
 have hbO:bOf r p.src = ⟨p.src,1,[]⟩:=by
  unfold bOf
  rw [if_neg (by simp [ho])]
 constructor
 rw [w11n]
 refine ⟨fun h=>ret_bad (by simp [badP,h]),fun h1=>⟨nameR p.src,⟨c35 hp⟩,fun h3=>⟨fun h=>ret_bad ?_,fun h4=>⟨fun h=>ret_bad (by simp [badP,h]),fun h2=>⟨fun h=>ret_bad (by simp [badP,h]),fun h5=>⟨fun h=>ret_bad ?_,fun h6=>?_⟩⟩⟩⟩,fun h=>ret_bad (by simp [badP,h])⟩⟩
 ·have:(p.fsrc != p.src) = true:=h
  simp [badP,this]
 ·have:decide (maxT < p.seq) = true:=h
  simp [badP,this]
 have hbad:=badP_of' h1 h2 h3 h4 h5 h6
 have hq1:1≤p.seq:=by simpa using h5
 have hq2:p.seq≤1099511627776:=by simpa using h6
 have hlenb:(bxsL r).length = r.length:=by simp
 have hrec:recvP r p = if 16≤r.length then .err 2 else if (1:Int) + 64 < p.seq then .err 410
   else .out (r.take (lowB r p.src) ++ [arrB ⟨p.src,1,[]⟩ p.seq] ++ r.drop (lowB r p.src)) true p.src (nextB ⟨p.src,1,[]⟩ p.seq):=by
  simp only [recvP,hbad,ho,hbO,Bool.not_false,Bool.true_and,Bool.false_eq_true,if_false,decide_eq_true_eq,List.not_mem_nil,or_false]
  rw [if_neg (show ¬ p.seq < 1 by omega)]
 refine ⟨p.src,(lowB r p.src:Int),⟨?_⟩,fun h=>(by cases h),fun _=>⟨fun h=>?_,fun h7=>⟨fun h=>?_,fun h8=>⟨fun h=>?_,fun h9=>⟨false,⟨rfl⟩,fun h=>(by cases h),fun _=>?_⟩⟩⟩⟩⟩
 ·rw [tbl_miss (by decide),tbl_hit]
  simp only [s36n,if_true,unBs_ok]
  rw [if_pos ⟨by omega,ho⟩]
 ·have h:=of_decide_eq_true h
  rw [hlenb] at h
  exact ⟨by rw [hrec,if_pos (by omega)]; rfl⟩
 ·have h7:=of_decide_eq_false h7
  have h:=of_decide_eq_true h
  rw [hlenb] at h7
  exact ⟨by rw [hrec,if_neg (by omega),if_pos (by omega)]; rfl⟩
 ·have h:=of_decide_eq_true h
  omega
 ·have h7:=of_decide_eq_false h7
  have h8:=of_decide_eq_false h8
  rw [hlenb] at h7
  simp only [Int.toNat_natCast,List.drop_zero,List.nil_append,Nat.zero_add,hlenb]
  have htl:List.take r.length (bxsL r) = bxsL r:=List.take_of_length_le (by simp)
  rw [htl]
  have ht:(List.take (lowB r p.src) (bxsL r)).length≤16:=by rw [List.length_take,hlenb]; omega
  have hd:(List.drop (lowB r p.src) (bxsL r)).length≤16:=by rw [List.length_drop,hlenb]; omega
  have hout:recvR (recvP r p) = (.tup [.agg [.sl 3 (List.take (lowB r p.src) (bxsL r) ++ [bxA (arrB ⟨p.src,1,[]⟩ p.seq)] ++ List.drop (lowB r p.src) (bxsL r)) .no],.bool true,.agg (ackPC p.src (nextB ⟨p.src,1,[]⟩ p.seq)),.int .i64 0],[]):=by
   rw [hrec,if_neg (by omega),if_neg (by omega)]
   simp only [recvR,rcA,bxsL,List.map_append,List.map_take,List.map_drop,List.map_cons,List.map_nil]
  refine ⟨(arrB ⟨p.src,1,[]⟩ p.seq).src,(arrB ⟨p.src,1,[]⟩ p.seq).next,intsA (arrB ⟨p.src,1,[]⟩ p.seq).ahead,⟨?_⟩,by omega,⟨by omega,by omega⟩,.inl (by first | trivial | rfl),by omega,⟨by omega,by omega⟩,.inl (by first | trivial | rfl),.inl (by first | trivial | rfl),by omega,fun he=>⟨.inl (by first | trivial | rfl),by first | trivial | omega,.inl (by first | trivial | rfl),by omega,(by first | trivial | rfl),⟨?_⟩⟩,fun he=>⟨.inl (by first | trivial | rfl),by omega,(by first | trivial | rfl),.inl (by first | trivial | rfl),by simp only [List.length_append,List.length_singleton]; omega,by first | trivial | simp,⟨?_⟩⟩⟩
  ·rw [tbl_miss (by decide),tbl_miss (by decide),tbl_miss (by decide),tbl_hit]
   simp only [s38z]
   rw [if_pos ⟨trivial,trivial,hq1,hq2⟩]; rfl
  ·rw [hout,he]; rfl
  ·rw [hout]; rfl
def s11:Spec:=fun args=>match args with
 | [.agg [.sl sz es .no],.agg [.str src,.bool ack,.int .i64 next,.str fsrc,.int .i64 seq,.int .i64 _,.int .i64 _,.str _,.str _,.int .i64 _,.sl _ _ _]] =>
  if src.length≤2000000∧sz = 3 then (match unL unB es with
   | some r=>if rcvOk r = true then some (recvR (recvP r ⟨src,ack,next,fsrc,seq⟩)) else none
   | none=>none) else none
 | _=>none
theorem o11 (m:Int):SpecOk PI (GI m) 11 s11:=spec_of' mixedI (m:=[]) fun args r h=>by
 unfold s11 at h
 split at h
 case h_2=>cases h
 rename_i sz es src ack next fsrc seq kind ref tab key ev sz2 es2 o2
 split at h
 case isFalse=>cases h
 rename_i hl
 obtain ⟨hl,rfl⟩:=hl
 split at h
 case h_2=>cases h
 rename_i r hr
 split at h
 case isFalse=>cases h
 rename_i hok
 injection h with h; subst h
 obtain rfl:=unBs_inv hr
 by_cases hold:oldB r src = true
 ·exact ⟨XA,_,_,nAn,tbl_cons (o35 m) (tbl_cons (o36f m) (tbl_cons (o37 m) (tbl_cons (o38 m) tbl_nil))),itbl_nil,p11f m r ⟨src,ack,next,fsrc,seq⟩ kind ref ev tab key sz2 es2 o2 hl hok hold⟩
 ·exact ⟨XB,_,_,nAn,tbl_cons (o35 m) (tbl_cons (o36n m) (tbl_cons (o37z m) (tbl_cons (o38z m) tbl_nil))),itbl_nil,p11n m r ⟨src,ack,next,fsrc,seq⟩ kind ref ev tab key sz2 es2 o2 hl hok (by simpa using hold)⟩
end Go.Abs
namespace Go.Abs
open Go.Proofs
def s26:Spec:=fun args=>match args with
 | [.agg [.str s,.int .i64 x,.sl sz es .no]]=>if sz = 1 then (match unL unIn es with
  | some l=>if s.length≤140737488351232∧l.length≤140737488351232 then some (.bool (boxOk ⟨s,x,l⟩),[]) else none
  | none=>none) else none
 | _=>none
def chkA (nx:Int) (last:Int):List Int→Bool
 | []=>true
 | x :: l=>decide (last < x) && decide (x≤nx + 64) && decide (x≤maxT) && chkA nx x l
def chkR (last:Option (List UInt8)):List BxI→Bool
 | []=>true
 | b :: l=>boxOk b && (last.all fun s=>Op.bytesLess s b.src) && chkR (some b.src) l
def prevR (r:List BxI) (i:Nat):Option (List UInt8):=if i = 0 then none else (r[i - 1]?).map (·.src)
def s8:Spec:=fun args=>match args with
 | [.agg [.sl sz es .no]]=>if sz = 3 then (match unL unB es with
  | some r=>if r.length≤140737488351232∧(r.all fun b=>decide (b.src.length≤140737488351232) && decide (b.ahead.length≤140737488351232)) = true then some (.bool (rcvOk r),[]) else none
  | none=>none) else none
 | _=>none
def s13:Spec:=fun args=>match args with
 | [.agg [.sl sz es .no],.agg [.sl sz2 es2 .no]]=>if sz = 3∧sz2 = 3 then (match unL unB es,unL unB es2 with
  | some a,some b=>if a.length≤140737488351232∧(a.all fun b=>decide (b.ahead.length≤140737488351232)) = true∧(b.all fun b=>decide (b.ahead.length≤140737488351232)) = true then some (.bool (decide (a = b)),[]) else none
  | _,_=>none) else none
 | [.agg [.sl sz [] .nil],.agg [.sl sz2 [] .nil]]=>if sz = 0∧sz2 = 0 then some (.bool true,[]) else none
 | _=>none
abbrev pkZ (s:List UInt8) (a:Bool) (n:Int):AV:=.agg [.str s,.bool a,.int .i64 n,.str [],.int .i64 0,.int .i64 0,.int .i64 0,.str [],.str [],.int .i64 0,.sl 3 [] .no]
abbrev fcZ:AV:=.agg [.str [],.int .i64 0,.int .i64 0,.int .i64 0,.str [],.str [],.int .i64 0,.sl 3 [] .no]
def s57:Spec:=fun args=>match args with
 | [.sl sz [] .no,.sl sz2 [] .no]=>if sz = 3∧sz2 = 3 then some (.bool true,[]) else none
 | _=>none
def s39:Spec:=fun args=>match args with
 | [.agg [.str [],.int .i64 a,.int .i64 b,.int .i64 c,.str [],.str [],.int .i64 d,.sl sz [] .no],.agg [.str [],.int .i64 a',.int .i64 b',.int .i64 c',.str [],.str [],.int .i64 d',.sl sz2 [] .no]] =>
  if a = 0∧b = 0∧c = 0∧d = 0∧a' = 0∧b' = 0∧c' = 0∧d' = 0∧sz = 3∧sz2 = 3 then some (.bool true,[]) else none
 | _=>none
def s12:Spec:=fun args=>match args with
 | [.agg [.str s,.bool t,.int .i64 n,.str [],.int .i64 a,.int .i64 b,.int .i64 c,.str [],.str [],.int .i64 d,.sl sz [] .no],.agg [.str s',.bool t',.int .i64 n',.str [],.int .i64 a',.int .i64 b',.int .i64 c',.str [],.str [],.int .i64 d',.sl sz2 [] .no]] =>
  if a = 0∧b = 0∧c = 0∧d = 0∧a' = 0∧b' = 0∧c' = 0∧d' = 0∧sz = 3∧sz2 = 3 then some (.bool (decide (s = s'∧t = t'∧n = n')),[]) else none
 | _=>none
def XS:Shapes:=fun f=>match f with
 | 35 | 26 | 39 | 57 | 13 | 12 | 8 | 7 | 9 | 27=>some shB
 | _=>none
def a26 (b:BxI):Anns:=⟨fun k=>if k = 5 then some { α:=Nat × Int,slots:=[1,3,4],nb:=1,vals:=fun n=>[.ptr 0 0,.int .i64 n.2,.int .i64 n.1],sS:=fun _=>⟨[some [.str b.src,.int .i64 b.next,.sl 1 (intsA b.ahead) .no]],[]⟩,I:=fun n=>n.1≤b.ahead.length∧chkA b.next b.next b.ahead = chkA b.next n.2 (b.ahead.drop n.1),μ:=fun n=>b.ahead.length - n.1 } else none,nA⟩
def a8 (r:List BxI):Anns:=⟨fun k=>if k = 2 then some { α:=Nat,slots:=[1,3],nb:=1,vals:=fun n=>[.ptr 0 0,.int .i64 n],sS:=fun _=>⟨[some [.sl 3 (bxsL r) .no]],[]⟩,I:=fun n=>n≤r.length∧chkR none r = chkR (prevR r n) (r.drop n),μ:=fun n=>r.length - n } else none,nA⟩
def a13 (a b:List BxI):Anns:=⟨fun k=>match k with
 | 4=>some { α:=Nat,slots:=[2,3,5],nb:=2,vals:=fun n=>[.ptr 0 0,.ptr 1 0,.int .i64 n],sS:=fun _=>⟨[some [.sl 3 (bxsL a) .no],some [.sl 3 (bxsL b) .no]],[]⟩,I:=fun n=>n≤a.length∧a.take n = b.take n,μ:=fun n=>a.length - n }
 | 10=>some { α:=Nat × BxI × BxI × Nat,slots:=[2,3,5,6,7,8],nb:=4,vals:=fun n=>[.ptr 0 0,.ptr 1 0,.int .i64 n.1,.ptr 2 0,.ptr 3 0,.int .i64 n.2.2.2],sS:=fun n=>⟨[some [.sl 3 (bxsL a) .no],some [.sl 3 (bxsL b) .no],some [.str n.2.1.src,.int .i64 n.2.1.next,.sl 1 (intsA n.2.1.ahead) .no],some [.str n.2.2.1.src,.int .i64 n.2.2.1.next,.sl 1 (intsA n.2.2.1.ahead) .no]],[]⟩,I:=fun n=>n.1 < a.length∧a[n.1]? = some n.2.1∧b[n.1]? = some n.2.2.1∧a.take n.1 = b.take n.1∧n.2.1.src = n.2.2.1.src∧n.2.1.next = n.2.2.1.next∧n.2.1.ahead.length = n.2.2.1.ahead.length∧n.2.2.2≤n.2.1.ahead.length∧n.2.1.ahead.take n.2.2.2 = n.2.2.1.ahead.take n.2.2.2,μ:=fun n=>n.2.1.ahead.length - n.2.2.2,link:=some fun T n=>T.getD 5 .junk = .int .i64 n.1 }
 | _=>none,nA⟩
end Go.Abs
