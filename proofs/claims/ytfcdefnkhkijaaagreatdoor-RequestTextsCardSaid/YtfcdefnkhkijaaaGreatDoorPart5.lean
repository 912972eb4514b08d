/- Own texts, part 5. -/
import Derived.Test.YtfcdefnkhkijaaaGreatDoorPart4
import Derived.Test.YtfcdefnkhkijaaaGreatDoorProg
import Derived.Test.YtfcdefnkhkijaaaGreatDoorChecked
import Derived.Test.YtfcdefnkhkijaaaGreatDoorShelf
import Derived.KernelRfl
import Derived.Lib.DecodeNEq
import Derived.Lib.IndexMore
import Derived.Lib.IndexBytes
import Derived.Lib.AtoiAll
import Derived.Lib.AtoiErrMem
import Derived.Lib.AppendIntMem
import Derived.WalkLawsBesides
import Derived.Test.YtfcdefnkhkijaaaGreatDoorPart3
import Derived.Lib.Hide
import Derived.Lib.AppendStr
import Derived.Lib.ItoaLen
import Derived.WalkKit
import Derived.Defers
import Derived.Recover
import Derived.Laws.Pointers
import Derived.BigQuiet
import Derived.Laws.BitsAllLaws
import Derived.Below
import Derived.WalkSmall
import Derived.Tactics2
import Derived.Laws.BytesString

namespace Go.Abs
open Go.Proofs
abbrev I6:=AV.int IntKind.i64
noncomputable abbrev PQ:=Tryz.prog
def tensA:AV:=.agg [.int .i64 1,.int .i64 10,.int .i64 100,.int .i64 1000,.int .i64 10000,.int .i64 100000,.int .i64 1000000]
def keptFirst:List AV:=(List.range 256).map fun c=>.int .u8 (Lib.firstT c)
def keptFirstA:AV:=.agg keptFirst
def keptAcc:List AV:=[.int .u8 128,.int .u8 191,.int .u8 160,.int .u8 191,.int .u8 128,.int .u8 159,.int .u8 144,.int .u8 191,.int .u8 128,.int .u8 143,.int .u8 0,.int .u8 0,.int .u8 0,.int .u8 0,.int .u8 0,.int .u8 0,.int .u8 0,.int .u8 0,.int .u8 0,.int .u8 0,.int .u8 0,.int .u8 0,.int .u8 0,.int .u8 0,.int .u8 0,.int .u8 0,.int .u8 0,.int .u8 0,.int .u8 0,.int .u8 0,.int .u8 0,.int .u8 0]
def keptAccA:AV:=.agg keptAcc
def keptPows:List AV:=(List.range 20).map fun i=>.int .u64 ((10 ^ i:Nat):Int)
def keptPowsA:AV:=.agg keptPows
def GQ (m:Int):Glob:=fun g=>match g with
 | 0=>some (.int .i64 m)
 | 1=>some tensA
 | 2=>some .ifc
 | 3=>some .ifc
 | 4=>some keptPowsA
 | 5=>some keptFirstA
 | 6=>some keptAccA
 | _=>none
def libQ:List (FuncId × Spec):=[(133,sContains)]
theorem mixedQ:PQ.follows .mixedOrders = true:=Tryz.checked.mixed
theorem goodQ {f:FuncId} (h:(match PQ.funcs[f]? with | some fn=>fn.body.isSome && !(fn.name == "runtime.NumGoroutine") | none=>false) = true):goodFn PQ f:=by
 split at h
 ·rename_i fn hf
  simp only [Bool.and_eq_true,Bool.not_eq_true'] at h
  exact ⟨fn,hf,h.1,h.2⟩
 ·cases h
theorem libQ_ok (m:Int):CalleeOk PQ (GQ m) (tbl libQ):=by
 refine tbl_cons ?_ tbl_nil
 exact o_contains (goodQ (by kernel_rfl)) (g0:=0) (m:=m) rfl fun s sub m w hs hm=>Tryz.strings_Contains s sub m w hs hm
theorem spec_run {P:Program} {G:Glob} {R0:Callee} (hm:P.follows .mixedOrders = true) (h0:CalleeOk P G R0) {f:FuncId} {s:Spec} (h:∀ args r,s args = some r→∃ n,(evs P G R0 (fun _=>[]) n).1 f args = some r):SpecOk P G f s:=by
 intro g args r lv hr
 simp only at hr
 split at hr
 ·rename_i e
  subst e
  obtain ⟨n,hn⟩:=h args _ hr
  exact (evs_ok hm h0 (fun _=>[]) n).1 g args r lv hn
 ·cases hr
def shB:Sh × Option TypeId:=(.val (.one .bool),none)
def shI:Sh × Option TypeId:=(.val (.one (.int .i64)),none)
def X1:Shapes:=fun f=>if f = 160∨f = 140 then some shB else none
def letterB (c:UInt8):Bool:=decide (97≤c.toNat∧c.toNat≤122)
def digitB (c:UInt8):Bool:=decide (48≤c.toNat∧c.toNat≤57)
def s160:Spec:=fun args=>match args with | [.int .u8 n]=>some (.bool (decide (97≤n∧n≤122)),[]) | _=>none
def s140:Spec:=fun args=>match args with | [.int .u8 n]=>some (.bool (decide (48≤n∧n≤57)),[]) | _=>none
def innerB (c:UInt8):Bool:=letterB c || digitB c || c == 95
def wl:List UInt8→Nat
 | []=>0
 | c :: t=>if letterB c then 1 + (t.takeWhile innerB).length else 0
def nA:Nat→Option Ann:=fun _=>none
def a123 (bs:List UInt8) (i:Nat):Anns:=⟨fun k=>if k = 4 then some { α:=Int,slots:=[0,1,5],nb:=0,vals:=fun n=>[bytesA bs,.int .i64 i,.int .i64 n],sS:=fun _=>⟨[],[]⟩,I:=fun n=>∃ k:Nat,n = k∧1≤k∧k≤wl (bs.drop i),μ:=fun n=>(bs.length - n).toNat } else none,nA⟩
def t33:List (FuncId × Spec):=[(160,s160),(140,s140)]
def kwList:List (List UInt8):=[[116,97,98,108,101],[102,101,97,116,117,114,101],[111,102],[107,101,101,112],[98,111,111,108],[116,101,120,116],[107,101,121],[105,110,116],[100,101,99],[105,102],[116,104,101,110],[101,108,115,101],[100,101,102,97,117,108,116],[111,114],[97,110,100],[110,111,116],[116,114,117,101],[102,97,108,115,101],[110,117,108,108],[99,111,117,110,116],[115,117,109],[109,101,97,110],[109,105,110],[109,97,120],[102,105,114,115,116],[108,97,115,116],[100,105,115,116,105,110,99,116],[113,117,97,110,116,105,108,101],[100,101,99,97,121],[97,108,108],[115,108,105,100,105,110,103],[116,117,109,98,108,105,110,103],[115,101,115,115,105,111,110],[119,104,101,114,101]]
def kwR (s:List UInt8):Bool:=kwList.contains s
def nameR (s:List UInt8):Bool:=decide (s ≠ []) && decide (s.length≤24) && decide (wl s = s.length) && !kwR s
def s124:Spec:=fun args=>match args with
 | [.str s]=>some (.bool (kwR s),[])
 | _=>none
def s88:Spec:=fun args=>match args with
 | [.str s]=>if s.length≤2000000 then some (.bool (kwR s),[]) else none
 | _=>none
def s123':Spec:=fun args=>match args with
 | [.sl sz es .no,.int .i64 n]=>if sz = 1 then match unBytes es with
  | some bs=>if 0≤n∧n.toNat < bs.length∧bs.length < 2 ^ 60 then some (.int .i64 (wl (bs.drop n.toNat)),[]) else none
  | none=>none else none
 | _=>none
def XW:Shapes:=fun f=>match f with
 | 88 | 124 | 40 | 77 | 133=>some shB
 | 123=>some shI
 | _=>none
def nAn:Anns:=⟨nA,nA⟩
def a40 (s:List UInt8):Anns:=⟨fun k=>if k = 4 then some { α:=Int,slots:=[0,17,18],nb:=0,vals:=fun n=>[.str s,.int .i64 s.length,.int .i64 n],sS:=fun _=>⟨[],[]⟩,I:=fun n=>∃ k:Nat,n = k∧k≤s.length∧(1≤k→k≤wl s),μ:=fun n=>(s.length - n).toNat } else none,nA⟩
theorem w160 (m:Int) (n:Int):(pureW PQ (GQ m) X1 (tbl []) (itbl []) ⟨nA,nA⟩ [] 160 [.int .u8 n] (.bool (decide (97≤n∧n≤122)),[])) =
((decide (n ≥ (97:Int)) = true→(decide (n≤(122:Int)) = true→RetIs (AV.bool true) [] (AV.bool (decide ((97:Int)≤n∧n≤(122:Int))),[]))∧(decide (n≤(122:Int)) = false→RetIs (AV.bool false) [] (AV.bool (decide ((97:Int)≤n∧n≤(122:Int))),[])))∧(decide (n ≥ (97:Int)) = false→RetIs (AV.bool false) [] (AV.bool (decide ((97:Int)≤n∧n≤(122:Int))),[]))):=by kernel_rfl
abbrev w123c3 (bs:List UInt8) (i:Nat) (y:Int):List AV:=[AV.sl 1 (bytesL bs) Own.no,AV.int IntKind.i64 (↑i:Int),AV.int IntKind.i64 y]
abbrev w123c1 (b:Bool) (bs:List UInt8) (i:Nat) (x:Int):Prop:=b = true→∃ (y:Int),ValsAre [AV.sl 1 (bytesL bs) Own.no,AV.int IntKind.i64 (↑i:Int),AV.int IntKind.i64 (IntKind.i64.wrap (x + (1:Int)))] (w123c3 bs i y)∧StIs { boxes:=[],live:=[] } { boxes:=[],live:=[] }∧(∃ (k:Nat),y = (↑k:Int)∧(1:Nat)≤k∧k≤wl (List.drop i bs))∧((↑bs.length:Int) - y).toNat < ((↑bs.length:Int) - x).toNat
abbrev w123c2 (i:Nat) (x:Int) (bs:List UInt8):Prop:=(0:Int)≤IntKind.i64.wrap ((↑i:Int) + x)∧IntKind.i64.wrap ((↑i:Int) + x) < (↑(bytesL bs).length:Int)
theorem w123 (m:Int) (bs:List UInt8) (i:Nat):(pureW PQ (GQ m) X1 (tbl t33) (itbl []) (a123 bs i) [] 123 [bytesA bs,.int .i64 i] (.int .i64 (wl (bs.drop i)),[])) =
(((0:Int)≤(↑i:Int)∧(↑i:Int) < (↑(bytesL bs).length:Int))∧∃ (n:Int),takeAt PQ 5 (bytesL bs) (↑i:Int).toNat 0 = some (AV.int IntKind.u8 n)∧∃ (b:Bool),CallIs (some (AV.bool (decide ((97:Int)≤n∧n≤(122:Int))),[])) (AV.bool b) []∧(b = true→(∃ (y:Int),ValsAre [AV.sl 1 (bytesL bs) Own.no,I6 (↑i:Int),I6 1] (w123c3 bs i y)∧StIs { boxes:=[],live:=[] } { boxes:=[],live:=[] }∧(∃ (k:Nat),y = (↑k:Int)∧(1:Nat)≤k∧k≤wl (List.drop i bs))∧True)∧∀ (x:Int),(∃ (k:Nat),x = (↑k:Int)∧(1:Nat)≤k∧k≤wl (List.drop i bs))→(decide (IntKind.i64.wrap ((↑i:Int) + x) < (↑(bytesL bs).length:Int)) = true→(w123c2 i x bs)∧∃ (n:Int),takeAt PQ 5 (bytesL bs) (IntKind.i64.wrap ((↑i:Int) + x)).toNat 0 = some (AV.int IntKind.u8 n)∧∃ (b:Bool),CallIs (some (AV.bool (decide ((97:Int)≤n∧n≤(122:Int))),[])) (AV.bool b) []∧(w123c1 b bs i x)∧(b = false→(w123c2 i x bs)∧∃ (n:Int),takeAt PQ 5 (bytesL bs) (IntKind.i64.wrap ((↑i:Int) + x)).toNat 0 = some (AV.int IntKind.u8 n)∧∃ (b:Bool),CallIs (some (AV.bool (decide ((48:Int)≤n∧n≤(57:Int))),[])) (AV.bool b) []∧(w123c1 b bs i x)∧(b = false→(w123c2 i x bs)∧∃ (n:Int),takeAt PQ 5 (bytesL bs) (IntKind.i64.wrap ((↑i:Int) + x)).toNat 0 = some (AV.int IntKind.u8 n)∧((n == (95:Int)) = true→∃ (y:Int),ValsAre [AV.sl 1 (bytesL bs) Own.no,I6 (↑i:Int),I6 (IntKind.i64.wrap (x + (1:Int)))] (w123c3 bs i y)∧StIs { boxes:=[],live:=[] } { boxes:=[],live:=[] }∧(∃ (k:Nat),y = (↑k:Int)∧(1:Nat)≤k∧k≤wl (List.drop i bs))∧((↑bs.length:Int) - y).toNat < ((↑bs.length:Int) - x).toNat)∧((n == (95:Int)) = false→RetIs (I6 x) [] (I6 (↑(wl (List.drop i bs)):Int),[])))))∧(decide (IntKind.i64.wrap ((↑i:Int) + x) < (↑(bytesL bs).length:Int)) = false→RetIs (I6 x) [] (I6 (↑(wl (List.drop i bs)):Int),[])))∧(b = false→RetIs (I6 0) [] (I6 (↑(wl (List.drop i bs)):Int),[]))):=by kernel_rfl
theorem w140 (m:Int) (n:Int):(pureW PQ (GQ m) X1 (tbl []) (itbl []) ⟨nA,nA⟩ [] 140 [.int .u8 n] (.bool (decide (48≤n∧n≤57)),[])) =
((decide (n ≥ (48:Int)) = true→(decide (n≤(57:Int)) = true→RetIs (AV.bool true) [] (AV.bool (decide ((48:Int)≤n∧n≤(57:Int))),[]))∧(decide (n≤(57:Int)) = false→RetIs (AV.bool false) [] (AV.bool (decide ((48:Int)≤n∧n≤(57:Int))),[])))∧(decide (n ≥ (48:Int)) = false→RetIs (AV.bool false) [] (AV.bool (decide ((48:Int)≤n∧n≤(57:Int))),[]))):=by kernel_rfl
theorem w88 (m:Int) (s:List UInt8):(pureW PQ (GQ m) XW (tbl libQ) (itbl []) nAn [] 88 [.str s] (.bool (kwR s),[])) =
(((!s == []) = true→∃ (b:Bool),CallIs (tbl [(133,sContains)] 133 [AV.str s,AV.str [32]]) (AV.bool b) []∧(b = true→RetIs (AV.bool false) [] (AV.bool (kwR s),[]))∧(b = false→(1:Nat) + s.length≤(9223372036854775807:Nat)∧([(32:UInt8)] ++ s).length + (1:Nat)≤(9223372036854775807:Nat)∧∃ (b:Bool),CallIs (some (AV.bool (Lib.contains [(32:UInt8),(116:UInt8),(97:UInt8),(98:UInt8),(108:UInt8),(101:UInt8),(32:UInt8),(102:UInt8),(101:UInt8),(97:UInt8),(116:UInt8),(117:UInt8),(114:UInt8),(101:UInt8),(32:UInt8),(111:UInt8),(102:UInt8),(32:UInt8),(107:UInt8),(101:UInt8),(101:UInt8),(112:UInt8),(32:UInt8),(98:UInt8),(111:UInt8),(111:UInt8),(108:UInt8),(32:UInt8),(116:UInt8),(101:UInt8),(120:UInt8),(116:UInt8),(32:UInt8),(107:UInt8),(101:UInt8),(121:UInt8),(32:UInt8),(105:UInt8),(110:UInt8),(116:UInt8),(32:UInt8),(100:UInt8),(101:UInt8),(99:UInt8),(32:UInt8),(105:UInt8),(102:UInt8),(32:UInt8),(116:UInt8),(104:UInt8),(101:UInt8),(110:UInt8),(32:UInt8),(101:UInt8),(108:UInt8),(115:UInt8),(101:UInt8),(32:UInt8),(100:UInt8),(101:UInt8),(102:UInt8),(97:UInt8),(117:UInt8),(108:UInt8),(116:UInt8),(32:UInt8),(111:UInt8),(114:UInt8),(32:UInt8),(97:UInt8),(110:UInt8),(100:UInt8),(32:UInt8),(110:UInt8),(111:UInt8),(116:UInt8),(32:UInt8),(116:UInt8),(114:UInt8),(117:UInt8),(101:UInt8),(32:UInt8),(102:UInt8),(97:UInt8),(108:UInt8),(115:UInt8),(101:UInt8),(32:UInt8),(110:UInt8),(117:UInt8),(108:UInt8),(108:UInt8),(32:UInt8),(99:UInt8),(111:UInt8),(117:UInt8),(110:UInt8),(116:UInt8),(32:UInt8),(115:UInt8),(117:UInt8),(109:UInt8),(32:UInt8),(109:UInt8),(101:UInt8),(97:UInt8),(110:UInt8),(32:UInt8),(109:UInt8),(105:UInt8),(110:UInt8),(32:UInt8),(109:UInt8),(97:UInt8),(120:UInt8),(32:UInt8),(102:UInt8),(105:UInt8),(114:UInt8),(115:UInt8),(116:UInt8),(32:UInt8),(108:UInt8),(97:UInt8),(115:UInt8),(116:UInt8),(32:UInt8),(100:UInt8),(105:UInt8),(115:UInt8),(116:UInt8),(105:UInt8),(110:UInt8),(99:UInt8),(116:UInt8),(32:UInt8),(113:UInt8),(117:UInt8),(97:UInt8),(110:UInt8),(116:UInt8),(105:UInt8),(108:UInt8),(101:UInt8),(32:UInt8),(100:UInt8),(101:UInt8),(99:UInt8),(97:UInt8),(121:UInt8),(32:UInt8),(97:UInt8),(108:UInt8),(108:UInt8),(32:UInt8),(115:UInt8),(108:UInt8),(105:UInt8),(100:UInt8),(105:UInt8),(110:UInt8),(103:UInt8),(32:UInt8),(116:UInt8),(117:UInt8),(109:UInt8),(98:UInt8),(108:UInt8),(105:UInt8),(110:UInt8),(103:UInt8),(32:UInt8),(115:UInt8),(101:UInt8),(115:UInt8),(115:UInt8),(105:UInt8),(111:UInt8),(110:UInt8),(32:UInt8),(119:UInt8),(104:UInt8),(101:UInt8),(114:UInt8),(101:UInt8),(32:UInt8)] ([(32:UInt8)] ++ s ++ [32])),[])) (AV.bool b) []∧(b = true→RetIs (AV.bool true) [] (AV.bool (kwR s),[]))∧(b = false→RetIs (AV.bool false) [] (AV.bool (kwR s),[]))))∧((!s == []) = false→RetIs (AV.bool false) [] (AV.bool (kwR s),[]))):=by kernel_rfl
abbrev w124c1 (s:List UInt8):=s == [100,105,115,116,105,110,99,116]
abbrev w124c2 (s:List UInt8):=s == [113,117,97,110,116,105,108,101]
abbrev w124c3 (s:List UInt8):=s == [116,117,109,98,108,105,110,103]
theorem w124 (m:Int) (s:List UInt8):(pureW PQ (GQ m) XW (tbl []) (itbl []) nAn [] 124 [.str s] (.bool (kwR s),[])) =
(((s == [116,97,98,108,101]) = true→RetIs (AV.bool true) [] (AV.bool (kwR s),[]))∧((s == [116,97,98,108,101]) = false→((s == [102,101,97,116,117,114,101]) = true→RetIs (AV.bool true) [] (AV.bool (kwR s),[]))∧((s == [102,101,97,116,117,114,101]) = false→((s == [111,102]) = true→RetIs (AV.bool true) [] (AV.bool (kwR s),[]))∧((s == [111,102]) = false→((s == [107,101,101,112]) = true→RetIs (AV.bool true) [] (AV.bool (kwR s),[]))∧((s == [107,101,101,112]) = false→((s == [98,111,111,108]) = true→RetIs (AV.bool true) [] (AV.bool (kwR s),[]))∧((s == [98,111,111,108]) = false→((s == [116,101,120,116]) = true→RetIs (AV.bool true) [] (AV.bool (kwR s),[]))∧((s == [116,101,120,116]) = false→((s == [107,101,121]) = true→RetIs (AV.bool true) [] (AV.bool (kwR s),[]))∧((s == [107,101,121]) = false→((s == [105,110,116]) = true→RetIs (AV.bool true) [] (AV.bool (kwR s),[]))∧((s == [105,110,116]) = false→((s == [100,101,99]) = true→RetIs (AV.bool true) [] (AV.bool (kwR s),[]))∧((s == [100,101,99]) = false→((s == [105,102]) = true→RetIs (AV.bool true) [] (AV.bool (kwR s),[]))∧((s == [105,102]) = false→((s == [116,104,101,110]) = true→RetIs (AV.bool true) [] (AV.bool (kwR s),[]))∧((s == [116,104,101,110]) = false→((s == [101,108,115,101]) = true→RetIs (AV.bool true) [] (AV.bool (kwR s),[]))∧((s == [101,108,115,101]) = false→((s == [100,101,102,97,117,108,116]) = true→RetIs (AV.bool true) [] (AV.bool (kwR s),[]))∧((s == [100,101,102,97,117,108,116]) = false→((s == [111,114]) = true→RetIs (AV.bool true) [] (AV.bool (kwR s),[]))∧((s == [111,114]) = false→((s == [97,110,100]) = true→RetIs (AV.bool true) [] (AV.bool (kwR s),[]))∧((s == [97,110,100]) = false→((s == [110,111,116]) = true→RetIs (AV.bool true) [] (AV.bool (kwR s),[]))∧((s == [110,111,116]) = false→((s == [116,114,117,101]) = true→RetIs (AV.bool true) [] (AV.bool (kwR s),[]))∧((s == [116,114,117,101]) = false→((s == [102,97,108,115,101]) = true→RetIs (AV.bool true) [] (AV.bool (kwR s),[]))∧((s == [102,97,108,115,101]) = false→((s == [110,117,108,108]) = true→RetIs (AV.bool true) [] (AV.bool (kwR s),[]))∧((s == [110,117,108,108]) = false→((s == [99,111,117,110,116]) = true→RetIs (AV.bool true) [] (AV.bool (kwR s),[]))∧((s == [99,111,117,110,116]) = false→((s == [115,117,109]) = true→RetIs (AV.bool true) [] (AV.bool (kwR s),[]))∧((s == [115,117,109]) = false→((s == [109,101,97,110]) = true→RetIs (AV.bool true) [] (AV.bool (kwR s),[]))∧((s == [109,101,97,110]) = false→((s == [109,105,110]) = true→RetIs (AV.bool true) [] (AV.bool (kwR s),[]))∧((s == [109,105,110]) = false→((s == [109,97,120]) = true→RetIs (AV.bool true) [] (AV.bool (kwR s),[]))∧((s == [109,97,120]) = false→((s == [102,105,114,115,116]) = true→RetIs (AV.bool true) [] (AV.bool (kwR s),[]))∧((s == [102,105,114,115,116]) = false→((s == [108,97,115,116]) = true→RetIs (AV.bool true) [] (AV.bool (kwR s),[]))∧((s == [108,97,115,116]) = false→((w124c1 s) = true→RetIs (AV.bool true) [] (AV.bool (kwR s),[]))∧((w124c1 s) = false→((w124c2 s) = true→RetIs (AV.bool true) [] (AV.bool (kwR s),[]))∧((w124c2 s) = false→((s == [100,101,99,97,121]) = true→RetIs (AV.bool true) [] (AV.bool (kwR s),[]))∧((s == [100,101,99,97,121]) = false→((s == [97,108,108]) = true→RetIs (AV.bool true) [] (AV.bool (kwR s),[]))∧((s == [97,108,108]) = false→((s == [115,108,105,100,105,110,103]) = true→RetIs (AV.bool true) [] (AV.bool (kwR s),[]))∧((s == [115,108,105,100,105,110,103]) = false→((w124c3 s) = true→RetIs (AV.bool true) [] (AV.bool (kwR s),[]))∧((w124c3 s) = false→((s == [115,101,115,115,105,111,110]) = true→RetIs (AV.bool true) [] (AV.bool (kwR s),[]))∧((s == [115,101,115,115,105,111,110]) = false→((s == [119,104,101,114,101]) = true→RetIs (AV.bool true) [] (AV.bool (kwR s),[]))∧((s == [119,104,101,114,101]) = false→RetIs (AV.bool false) [] (AV.bool (kwR s),[])))))))))))))))))))))))))))))))))))):=by kernel_rfl
abbrev w40c4 (s:List UInt8) (x:Int):List AV:=[AV.str s,AV.int IntKind.i64 (↑s.length:Int),AV.int IntKind.i64 (IntKind.i64.wrap (x + (1:Int)))]
abbrev w40c5 (s:List UInt8) (y:Int):List AV:=[AV.str s,AV.int IntKind.i64 (↑s.length:Int),AV.int IntKind.i64 y]
abbrev w40c3 (y:Int) (s:List UInt8):Prop:=∃ (k:Nat),y = (↑k:Int)∧k≤s.length∧((1:Nat)≤k→k≤wl s)
abbrev w40c2 (c:UInt8) (s:List UInt8) (x:Int):Prop:=((↑c.toNat:Int) == (95:Int)) = true→∃ (y:Int),ValsAre (w40c4 s x) (w40c5 s y)∧StIs { boxes:=[],live:=[] } { boxes:=[],live:=[] }∧(w40c3 y s)∧((↑s.length:Int) - y).toNat < ((↑s.length:Int) - x).toNat
abbrev w40c1 (x:Int) (c:UInt8) (s:List UInt8):Prop:=decide (x > (0:Int)) = true→(decide ((↑c.toNat:Int) ≥ (48:Int)) = true→(decide ((↑c.toNat:Int)≤(57:Int)) = true→∃ (y:Int),ValsAre (w40c4 s x) (w40c5 s y)∧StIs { boxes:=[],live:=[] } { boxes:=[],live:=[] }∧(w40c3 y s)∧((↑s.length:Int) - y).toNat < ((↑s.length:Int) - x).toNat)∧(decide ((↑c.toNat:Int)≤(57:Int)) = false→(w40c2 c s x)∧(((↑c.toNat:Int) == (95:Int)) = false→RetIs (AV.bool false) [] (AV.bool (nameR s),[]))))∧(decide ((↑c.toNat:Int) ≥ (48:Int)) = false→(w40c2 c s x)∧(((↑c.toNat:Int) == (95:Int)) = false→RetIs (AV.bool false) [] (AV.bool (nameR s),[])))
theorem w40 (m:Int) (s:List UInt8):(pureW PQ (GQ m) XW (tbl [(88,s88)]) (itbl []) (a40 s) [] 40 [.str s] (.bool (nameR s),[])) =
(((s == []) = true→RetIs (AV.bool false) [] (AV.bool (nameR s),[]))∧((s == []) = false→(decide ((↑s.length:Int) > (24:Int)) = true→RetIs (AV.bool false) [] (AV.bool (nameR s),[]))∧(decide ((↑s.length:Int) > (24:Int)) = false→∃ (b:Bool),CallIs (tbl [(88,s88)] 88 [AV.str s]) (AV.bool b) []∧(b = true→RetIs (AV.bool false) [] (AV.bool (nameR s),[]))∧(b = false→(∃ (y:Int),ValsAre [AV.str s,AV.int IntKind.i64 (↑s.length:Int),AV.int IntKind.i64 0] (w40c5 s y)∧StIs { boxes:=[],live:=[] } { boxes:=[],live:=[] }∧(w40c3 y s)∧True)∧∀ (x:Int),(∃ (k:Nat),x = (↑k:Int)∧k≤s.length∧((1:Nat)≤k→k≤wl s))→(decide (x < (↑s.length:Int)) = true→(0:Int)≤x∧∃ (c:UInt8),s[x.toNat]? = some c∧(decide ((↑c.toNat:Int) ≥ (97:Int)) = true→(decide ((↑c.toNat:Int)≤(122:Int)) = true→∃ (y:Int),ValsAre (w40c4 s x) (w40c5 s y)∧StIs { boxes:=[],live:=[] } { boxes:=[],live:=[] }∧(w40c3 y s)∧((↑s.length:Int) - y).toNat < ((↑s.length:Int) - x).toNat)∧(decide ((↑c.toNat:Int)≤(122:Int)) = false→(w40c1 x c s)∧(decide (x > (0:Int)) = false→RetIs (AV.bool false) [] (AV.bool (nameR s),[]))))∧(decide ((↑c.toNat:Int) ≥ (97:Int)) = false→(w40c1 x c s)∧(decide (x > (0:Int)) = false→RetIs (AV.bool false) [] (AV.bool (nameR s),[]))))∧(decide (x < (↑s.length:Int)) = false→RetIs (AV.bool true) [] (AV.bool (nameR s),[])))))):=by kernel_rfl
theorem w77 (m:Int) (s:List UInt8):(pureW PQ (GQ m) XW (tbl [(124,s124),(123,s123')]) (itbl []) nAn [] 77 [.str s] (.bool (nameR s),[])) =
(((!s == []) = true→(decide ((↑s.length:Int)≤(24:Int)) = true→s.length≤(70368744177664:Nat)∧∃ (n:Int),CallIs (tbl [(124,s124),(123,s123')] 123 [AV.sl 1 (List.map (fun (c:UInt8)=>AV.int IntKind.u8 (↑c.toNat:Int)) s) Own.no,AV.int IntKind.i64 0]) (AV.int IntKind.i64 n) []∧((n == (↑s.length:Int)) = true→∃ (b:Bool),CallIs (some (AV.bool (kwR s),[])) (AV.bool b) []∧(b = true→RetIs (AV.bool false) [] (AV.bool (nameR s),[]))∧(b = false→RetIs (AV.bool true) [] (AV.bool (nameR s),[])))∧((n == (↑s.length:Int)) = false→RetIs (AV.bool false) [] (AV.bool (nameR s),[])))∧(decide ((↑s.length:Int)≤(24:Int)) = false→RetIs (AV.bool false) [] (AV.bool (nameR s),[])))∧((!s == []) = false→RetIs (AV.bool false) [] (AV.bool (nameR s),[]))):=by kernel_rfl
theorem agg5:aggA PQ 5 = some false:=by kernel_rfl
theorem size5:(sizeA PQ 5).isSome = true:=by kernel_rfl
theorem wl_le (bs:List UInt8):wl bs≤bs.length:=by
 cases bs with
 | nil=>simp [wl]
 | cons c t =>
  simp only [wl]
  split
  ·have:=(List.takeWhile_prefix innerB (l:=t)).length_le
   simp; omega
  ·simp
theorem wl_drop {bs:List UInt8} {i:Nat} (h:i < bs.length):wl (bs.drop i) = if letterB (bs.getD i 0) then 1 + ((bs.drop (i + 1)).takeWhile innerB).length else 0:=by
 rw [List.drop_eq_getElem_cons h]
 simp [wl,h]
theorem getD_drop' {bs:List UInt8} {i k:Nat}:(bs.drop i).getD k 0 = bs.getD (i + k) 0:=by
 simp [List.getElem?_drop]
theorem wl_next {bs:List UInt8} {i k:Nat} (hk:k≤wl (bs.drop i)) (h1:1≤k) (h:i + k < bs.length) (hp:innerB (bs.getD (i + k) 0) = true):k + 1≤wl (bs.drop i):=by
 rw [wl_drop (by omega)] at hk ⊢
 split at hk
 ·rename_i hc
  rw [if_pos hc]
  have:=tw_next (p:=innerB) (l:=bs.drop (i + 1)) (k:=k - 1) (by omega) (by rw [List.length_drop]; omega) (by rw [getD_drop',show i + 1 + (k - 1) = i + k by omega]; exact hp)
  omega
 ·omega
theorem wl_stop {bs:List UInt8} {i k:Nat} (hk:k≤wl (bs.drop i)) (h1:1≤k) (hp:i + k < bs.length→innerB (bs.getD (i + k) 0) = false):k = wl (bs.drop i):=by
 have hl:=wl_le (bs.drop i)
 rw [List.length_drop] at hl
 have hi:i < bs.length:=by omega
 rw [wl_drop hi] at hk ⊢
 split at hk
 ·rename_i hc
  rw [if_pos hc]
  have:=tw_stop (p:=innerB) (l:=bs.drop (i + 1)) (k:=k - 1) (by omega) (fun h=>by rw [getD_drop',show i + 1 + (k - 1) = i + k by omega]; exact hp (by rw [List.length_drop] at h; omega))
  omega
 ·omega
theorem p123 (m:Int) (bs:List UInt8) (i:Nat) (hi:i < bs.length) (hb:bs.length < 2 ^ 60):PureOk PQ (GQ m) X1 (tbl t33) (itbl []) (a123 bs i) [] 123 [bytesA bs,.int .i64 i] (.int .i64 (wl (bs.drop i)),[]):=by
 constructor
 rw [w123]; unfold w123c2 w123c1 w123c3 I6
 simp only [callIs_iff,valsAre_iff,stIs_iff,retIs_iff,take_u8_iff agg5 size5,Option.some.injEq,Prod.mk.injEq,AV.bool.injEq,AV.int.injEq,List.cons.injEq,and_true,true_and,exists_eq_left',and_assoc,exists_and_left,decide_eq_true_eq,decide_eq_false_iff_not,bytesL_length,Int.toNat_natCast]
 have hw:=wl_drop hi
 have hl:=wl_le (bs.drop i)
 rw [List.length_drop] at hl
 have hlet:letterB (bs.getD i 0) = decide (97≤(bs.getD i 0).toNat∧(bs.getD i 0).toNat≤122):=rfl
 refine ⟨by omega,by omega,hi,fun hA=>⟨⟨1,rfl,Nat.le_refl _,?_⟩,?_⟩,fun hA=>?_⟩
 ·rw [hw,if_pos (by rw [hlet]; exact decide_eq_true (by omega))]; omega
 ·rintro x ⟨k,rfl,h1,h2⟩
  rw [wrap64_in (n:=(i:Int) + k) (by omega) (by omega),wrap64_in (n:=(k:Int) + 1) (by omega) (by omega),show ((i:Int) + k).toNat = i + k by omega]
  have hin:innerB (bs.getD (i + k) 0) = (decide (97≤(bs.getD (i + k) 0).toNat∧(bs.getD (i + k) 0).toNat≤122) || decide (48≤(bs.getD (i + k) 0).toNat∧(bs.getD (i + k) 0).toNat≤57) || (bs.getD (i + k) 0) == 95):=rfl
  generalize hc:bs.getD (i + k) 0 = c at *
  have step:i + k < bs.length→innerB c = true→(∃ j:Nat,(k:Int) + 1 = j∧1≤j∧j≤wl (bs.drop i))∧((bs.length:Int) - (k + 1)).toNat < ((bs.length:Int) - k).toNat:=fun hlt hp =>
   ⟨⟨k + 1,by omega,by omega,wl_next h2 h1 hlt (hc ▸ hp)⟩,by omega⟩
  refine ⟨fun hlt=>⟨by omega,by omega,by omega,fun hB=>step (by omega) (by rw [hin]; simp; omega),fun hB=>⟨by omega,by omega,by omega,fun hC=>step (by omega) (by rw [hin]; simp; omega),fun hC=>⟨by omega,by omega,by omega,fun hD=>step (by omega) ?_,fun hD=>?_⟩⟩⟩,fun hge=>?_⟩
  ·rw [hin]
   have:c = 95:=by
    rw [← UInt8.toNat_inj]
    have:(c.toNat:Int) = 95:=by simpa using hD
    have h95:(95:UInt8).toNat = 95:=rfl
    omega
   simp [this]
  ·have:=wl_stop (bs:=bs) (i:=i) (k:=k) h2 h1 fun _=>by
    rw [hc,hin]
    have:c ≠ 95:=by
     intro e; subst e; simp at hD
    simp [this]
    omega
   omega
  ·have:=wl_stop (bs:=bs) (i:=i) (k:=k) h2 h1 fun h=>by omega
   omega
 ·rw [hw,if_neg (by rw [hlet]; simp only [decide_eq_true_eq]; omega)]; rfl
theorem p124 (m:Int) (s:List UInt8):PureOk PQ (GQ m) XW (tbl []) (itbl []) nAn [] 124 [.str s] (.bool (kwR s),[]):=by
 constructor
 rw [w124]; unfold w124c3 w124c2 w124c1
 simp only [retIs_iff,Prod.mk.injEq,AV.bool.injEq,and_true,kwR,kwList,List.contains_cons,List.contains_nil,beq_iff_eq,beq_eq_false_iff_ne,ne_eq]
 repeat' (refine And.intro (fun h=>?_) (fun h=>?_))
 all_goals simp [*]
theorem p77 (m:Int) (s:List UInt8):PureOk PQ (GQ m) XW (tbl [(124,s124),(123,s123')]) (itbl []) nAn [] 77 [.str s] (.bool (nameR s),[]):=by
 constructor
 rw [w77]
 have hb:=unBytes_mk s
 unfold bytesL at hb
 simp only [callIs_iff,retIs_iff,Prod.mk.injEq,AV.bool.injEq,Option.some.injEq,and_true,exists_eq_left',tbl,s123',hb,decide_eq_true_eq,decide_eq_false_iff_not]
 refine ⟨fun h1=>⟨fun h2=>⟨by omega,?_⟩,fun h2=>?_⟩,fun h1=>?_⟩
 ·have hne:s ≠ []:=by simpa using h1
  have hp:0 < s.length:=List.length_pos_iff.2 hne
  refine ⟨wl s,?_,fun h3=>⟨fun h4=>?_,fun h4=>?_⟩,fun h3=>?_⟩
  ·have hc:0≤(0:Int)∧Int.toNat 0 < s.length∧s.length < 2 ^ 60:=⟨by omega,by simpa using hp,by omega⟩
   simp [hc,hne]
  ·simp [nameR,h4]
  ·have h3':wl s = s.length:=by have:=eq_of_beq h3; omega
   simp [nameR,h4,hne,h3']
   omega
  ·have h3':wl s ≠ s.length:=fun e=>by rw [e] at h3; simp at h3
   simp [nameR,h3']
 ·simp [nameR]; intro _ h; omega
 ·have:s = []:=by simpa using h1
  simp [nameR,this]
theorem p40 (m:Int) (s:List UInt8) (hs:s.length≤2000000):PureOk PQ (GQ m) XW (tbl [(88,s88)]) (itbl []) (a40 s) [] 40 [.str s] (.bool (nameR s),[]):=by
 constructor
 rw [w40]; unfold w40c1 w40c2 w40c3 w40c5 w40c4
 have t16:tbl [(88,s88)] 88 [.str s] = some (.bool (kwR s),[]):=by
  show s88 [.str s] = _
  simp [s88,hs]
 rw [t16]
 simp only [callIs_iff,valsAre_iff,stIs_iff,retIs_iff,Prod.mk.injEq,AV.bool.injEq,AV.int.injEq,Option.some.injEq,List.cons.injEq,and_true,true_and,exists_eq_left',decide_eq_true_eq,decide_eq_false_iff_not,beq_iff_eq,beq_eq_false_iff_ne,ne_eq]
 refine ⟨fun h=>by simp [nameR,h],fun hne=>⟨fun h=>?_,fun hl=>⟨fun h=>by simp [nameR,h],fun hk=>⟨⟨0,rfl,by omega,by omega⟩,?_⟩⟩⟩⟩
 ·simp [nameR]; intro _ h2; omega
 ·rintro x ⟨k,rfl,hk1,hk2⟩
  rw [wrap64_in (n:=(k:Int) + 1) (by omega) (by omega)]
  have hw:=wl_le s
  refine ⟨fun hlt=>?_,fun hge=>?_⟩
  ·have hlt':k < s.length:=by omega
   refine ⟨by omega,s.getD k 0,by simp [hlt'],?_⟩
   have hlet:letterB (s.getD k 0) = decide (97≤(s.getD k 0).toNat∧(s.getD k 0).toNat≤122):=rfl
   have h95:(s.getD k 0).toNat = 95 ↔ s.getD k 0 = 95:=by
    rw [← UInt8.toNat_inj]; rfl
   have hin:innerB (s.getD k 0) = true ↔ (97≤(s.getD k 0).toNat∧(s.getD k 0).toNat≤122)∨(48≤(s.getD k 0).toNat∧(s.getD k 0).toNat≤57)∨(s.getD k 0).toNat = 95:=by
    rw [h95]
    simp only [innerB,letterB,digitB,Bool.or_eq_true,decide_eq_true_eq,beq_iff_eq,or_assoc]
   have hw0:=wl_drop (bs:=s) (i:=0) (by omega)
   rw [List.drop_zero] at hw0
   have step:((97≤(s.getD k 0).toNat∧(s.getD k 0).toNat≤122)∨(1≤k∧((48≤(s.getD k 0).toNat∧(s.getD k 0).toNat≤57)∨(s.getD k 0).toNat = 95))) →
     (∃ j:Nat,(k:Int) + 1 = j∧j≤s.length∧(1≤j→j≤wl s))∧((s.length:Int) - (k + 1)).toNat < ((s.length:Int) - k).toNat:=fun hp=>by
    refine ⟨⟨k + 1,by omega,by omega,fun _=>?_⟩,by omega⟩
    by_cases h0:k = 0
    ·subst h0
     rw [hw0,if_pos (by rw [hlet]; exact decide_eq_true (by omega))]
     omega
    ·have:=wl_next (bs:=s) (i:=0) (k:=k) (by rw [List.drop_zero]; exact hk2 (by omega)) (by omega) (by omega) (by rw [Nat.zero_add,hin]; omega)
     rw [List.drop_zero] at this
     omega
   have stop:¬((97≤(s.getD k 0).toNat∧(s.getD k 0).toNat≤122)∨(1≤k∧((48≤(s.getD k 0).toNat∧(s.getD k 0).toNat≤57)∨(s.getD k 0).toNat = 95)))→false = nameR s:=fun hp=>by
    have hne:wl s ≠ s.length:=by
     by_cases h0:k = 0
     ·subst h0
      rw [hw0,if_neg (by rw [hlet]; simp only [decide_eq_true_eq]; omega)]
      omega
     ·have:=wl_stop (bs:=s) (i:=0) (k:=k) (by rw [List.drop_zero]; exact hk2 (by omega)) (by omega) (fun _=>by
       rw [Nat.zero_add]
       cases hb:innerB (s.getD k 0) with
       | false=>rfl
       | true=>rw [hin] at hb; omega)
      rw [List.drop_zero] at this
      omega
    simp [nameR,hne]
   generalize (s.getD k 0).toNat = c at *
   repeat' (first | exact step (by omega) | exact stop (by omega) | refine And.intro (fun _=>?_) (fun _=>?_))
  ·have hk3:k = s.length:=by omega
   have hp:0 < s.length:=List.length_pos_iff.2 hne
   have:wl s = s.length:=by have:=hk2 (by omega); omega
   simp [nameR,hne,hk,this]
   omega
theorem contains_iff (t sub:List UInt8):Lib.contains t sub = true ↔ ∃ i,i≤t.length∧Lib.occAt t sub i = true:=by
 unfold Lib.contains
 rw [decide_eq_true_eq]
 constructor
 ·intro h
  by_cases hex:∃ i,i≤t.length∧Lib.occAt t sub i = true
  ·exact hex
  ·have:=Lib.index_none (s:=t) (sub:=sub) fun j hj=>by
    cases hb:Lib.occAt t sub j with
    | false=>rfl
    | true=>exact absurd ⟨j,hj,hb⟩ hex
   omega
 ·intro h
  obtain ⟨n,⟨hn,ho⟩,hmin⟩:=exists_least h
  have:=Lib.index_first (s:=t) (sub:=sub) hn ho fun j hj=>by
   cases hb:Lib.occAt t sub j with
   | false=>rfl
   | true=>have:=hmin j ⟨by omega,hb⟩; omega
  omega
def txt (ws:List (List UInt8)):List UInt8:=32 :: ws.flatMap fun w=>w ++ [32]
theorem txt_cons (w:List UInt8) (ws:List (List UInt8)):txt (w :: ws) = 32 :: (w ++ txt ws):=by
 simp [txt]
theorem pre_word:∀ {s w r q:List UInt8},32 ∉ s→32 ∉ w→(s ++ 32 :: r = w ++ 32 :: q)→s = w
 | [],[],_,_,_,_,_=>rfl
 | [],c :: w,_,_,_,hw,h=>by
  injection h with h1 _
  exact absurd (by rw [← h1]; exact List.mem_cons_self) hw
 | c :: s,[],_,_,hs,_,h=>by
  injection h with h1 _
  exact absurd (by rw [h1]; exact List.mem_cons_self) hs
 | c :: s,d :: w,r,q,hs,hw,h=>by
  simp only [List.cons_append,List.cons.injEq] at h
  rw [h.1,pre_word (fun hm=>hs (List.mem_cons_of_mem _ hm)) (fun hm=>hw (List.mem_cons_of_mem _ hm)) h.2]
theorem occ_txt {s:List UInt8} (hs:32 ∉ s) (hne:s ≠ []):∀ (ws:List (List UInt8)),(∀ w ∈ ws,32 ∉ w)→((∃ i,([32] ++ s ++ [32]) <+: (txt ws).drop i) ↔ s ∈ ws)
 | [],_=>by
  simp only [List.not_mem_nil,iff_false]
  rintro ⟨i,h⟩
  have:=h.length_le
  have hp:0 < s.length:=List.length_pos_iff.2 hne
  simp [txt] at this
  omega
 | w :: ws,hw=>by
  have ih:=occ_txt hs hne ws fun x hx=>hw x (List.mem_cons_of_mem _ hx)
  rw [txt_cons]
  constructor
  ·rintro ⟨i,h⟩
   match i with
   | 0 =>
    obtain ⟨r,hr⟩:=h
    simp only [List.drop_zero,List.cons_append,List.nil_append,List.append_assoc,List.cons.injEq,true_and,txt] at hr
    rw [pre_word hs (hw w List.mem_cons_self) hr]
    exact List.mem_cons_self
   | i + 1 =>
    simp only [List.drop_succ_cons] at h
    by_cases hi:i < w.length
    ·obtain ⟨r,hr⟩:=h
     rw [List.drop_append_of_le_length (by omega),List.drop_eq_getElem_cons hi] at hr
     simp only [List.cons_append,List.nil_append,List.cons.injEq] at hr
     exact absurd (hr.1 ▸ List.getElem_mem hi) (hw w List.mem_cons_self)
    ·have e:(w ++ txt ws).drop i = (txt ws).drop (i - w.length):=by
      rw [List.drop_append,List.drop_eq_nil_of_le (by omega),List.nil_append]
     rw [e] at h
     exact List.mem_cons_of_mem _ (ih.1 ⟨_,h⟩)
  ·intro h
   rcases List.mem_cons.1 h with rfl | h
   ·exact ⟨0,⟨txt ws |>.tail,by simp [txt]⟩⟩
   ·obtain ⟨i,hi⟩:=ih.2 h
    refine ⟨i + w.length + 1,?_⟩
    simp only [List.drop_succ_cons]
    rw [List.drop_append,List.drop_eq_nil_of_le (by omega),List.nil_append,show i + w.length - w.length = i by omega]
    exact hi
theorem contains_txt {s:List UInt8} (hs:32 ∉ s) (hne:s ≠ []) (ws:List (List UInt8)) (hw:∀ w ∈ ws,32 ∉ w):Lib.contains (txt ws) ([32] ++ s ++ [32]) = ws.contains s:=by
 rw [Bool.eq_iff_iff,contains_iff,List.contains_iff_mem,← occ_txt hs hne ws hw]
 constructor
 ·rintro ⟨i,_,h⟩
  exact ⟨i,List.isPrefixOf_iff_prefix.1 h⟩
 ·rintro ⟨i,h⟩
  refine ⟨i,?_,List.isPrefixOf_iff_prefix.2 h⟩
  have:=h.length_le
  simp only [List.length_append,List.length_drop,List.length_cons,List.length_nil] at this
  omega
theorem contains_one {s:List UInt8}:Lib.contains s [32] = true ↔ 32 ∈ s:=by
 rw [contains_iff]
 constructor
 ·rintro ⟨i,hi,h⟩
  have:=List.isPrefixOf_iff_prefix.1 h
  obtain ⟨r,hr⟩:=this
  exact List.mem_of_mem_drop (i:=i) (by rw [← hr]; simp)
 ·intro h
  obtain ⟨i,hi,he⟩:=List.mem_iff_getElem.1 h
  refine ⟨i,by omega,List.isPrefixOf_iff_prefix.2 ⟨s.drop (i + 1),?_⟩⟩
  rw [List.drop_eq_getElem_cons hi,he]
  rfl
theorem kw_no:∀ w ∈ kwList,(32:UInt8) ∉ w:=by decide
theorem p88 (m:Int) (s:List UInt8) (hs:s.length≤2000000):PureOk PQ (GQ m) XW (tbl libQ) (itbl []) nAn [] 88 [.str s] (.bool (kwR s),[]):=by
 constructor
 rw [w88]
 have hc:∀ t:List UInt8,tbl [(133,sContains)] 133 [.str s,.str t] = some (.bool (Lib.contains s t),[]):=fun t=>by
  show sContains [.str s,.str t] = _
  simp only [sContains]
  rw [if_pos (by omega)]
 rw [hc]
 have ht:∀ u,Lib.contains [32,116,97,98,108,101,32,102,101,97,116,117,114,101,32,111,102,32,107,101,101,112,32,98,111,111,108,32,116,101,120,116,32,107,101,121,32,105,110,116,32,100,101,99,32,105,102,32,116,104,101,110,32,101,108,115,101,32,100,101,102,97,117,108,116,32,111,114,32,97,110,100,32,110,111,116,32,116,114,117,101,32,102,97,108,115,101,32,110,117,108,108,32,99,111,117,110,116,32,115,117,109,32,109,101,97,110,32,109,105,110,32,109,97,120,32,102,105,114,115,116,32,108,97,115,116,32,100,105,115,116,105,110,99,116,32,113,117,97,110,116,105,108,101,32,100,101,99,97,121,32,97,108,108,32,115,108,105,100,105,110,103,32,116,117,109,98,108,105,110,103,32,115,101,115,115,105,111,110,32,119,104,101,114,101,32] u = Lib.contains (txt kwList) u:=fun u=>rfl
 simp only [ht]
 simp only [callIs_iff,retIs_iff,Prod.mk.injEq,AV.bool.injEq,Option.some.injEq,and_true,exists_eq_left']
 refine ⟨fun h1=>⟨fun h2=>?_,fun h2=>⟨by omega,by simp; omega,?_⟩⟩,fun h1=>?_⟩
 ·have hm:=contains_one.1 h2
  cases hk:kwR s with
  | false=>rfl
  | true=>exact absurd hm (kw_no s (List.contains_iff_mem.1 hk))
 ·have hne:s ≠ []:=by simpa using h1
  have hm:32 ∉ s:=fun h=>by rw [contains_one.2 h] at h2; cases h2
  rw [contains_txt hm hne kwList kw_no]
  exact ⟨fun h=>h.symm,fun h=>h.symm⟩
 ·have:s = []:=by simpa using h1
  subst this
  rfl
theorem p160 (m n:Int):PureOk PQ (GQ m) X1 (tbl []) (itbl []) ⟨nA,nA⟩ [] 160 [.int .u8 n] (.bool (decide (97≤n∧n≤122)),[]):=by
 constructor
 rw [w160]
 simp only [retIs_iff,Prod.mk.injEq,AV.bool.injEq,and_true,decide_eq_true_eq,decide_eq_false_iff_not]
 refine ⟨fun h1=>⟨fun h2=>(decide_eq_true (by omega)).symm,fun h2=>(decide_eq_false (by omega)).symm⟩,fun h1=>(decide_eq_false (by omega)).symm⟩
theorem p140 (m n:Int):PureOk PQ (GQ m) X1 (tbl []) (itbl []) ⟨nA,nA⟩ [] 140 [.int .u8 n] (.bool (decide (48≤n∧n≤57)),[]):=by
 constructor
 rw [w140]
 simp only [retIs_iff,Prod.mk.injEq,AV.bool.injEq,and_true,decide_eq_true_eq,decide_eq_false_iff_not]
 refine ⟨fun h1=>⟨fun h2=>(decide_eq_true (by omega)).symm,fun h2=>(decide_eq_false (by omega)).symm⟩,fun h1=>(decide_eq_false (by omega)).symm⟩
theorem o160 (m:Int):SpecOk PQ (GQ m) 160 s160:=spec_of (X:=X1) (m:=[]) mixedQ tbl_nil itbl_nil fun args r h=>by
 unfold s160 at h
 split at h
 ·injection h with h; subst h; exact ⟨⟨nA,nA⟩,p160 m _⟩
 ·cases h
theorem o140 (m:Int):SpecOk PQ (GQ m) 140 s140:=spec_of (X:=X1) (m:=[]) mixedQ tbl_nil itbl_nil fun args r h=>by
 unfold s140 at h
 split at h
 ·injection h with h; subst h; exact ⟨⟨nA,nA⟩,p140 m _⟩
 ·cases h
theorem o123 (m:Int):SpecOk PQ (GQ m) 123 s123':=spec_of (X:=X1) (m:=[]) mixedQ (tbl_cons (o160 m) (tbl_cons (o140 m) tbl_nil)) itbl_nil fun args r h=>by
 unfold s123' at h
 split at h
 ·rename_i sz es n
  split at h
  ·rename_i hsz
   subst hsz
   split at h
   ·rename_i bs hb
    obtain rfl:=unBytes_some hb
    split at h
    ·rename_i hc
     injection h with h
     subst h
     have:=p123 m bs n.toNat hc.2.1 hc.2.2
     rw [Int.toNat_of_nonneg hc.1] at this
     exact ⟨a123 bs n.toNat,this⟩
    ·cases h
   ·cases h
  ·cases h
 ·cases h
theorem o124 (m:Int):SpecOk PQ (GQ m) 124 s124:=spec_of (X:=XW) (m:=[]) mixedQ tbl_nil itbl_nil fun args r h=>by
 unfold s124 at h
 split at h
 ·injection h with h; subst h; exact ⟨nAn,p124 m _⟩
 ·cases h
theorem o88 (m:Int):SpecOk PQ (GQ m) 88 s88:=spec_of (X:=XW) (m:=[]) mixedQ (libQ_ok m) itbl_nil fun args r h=>by
 unfold s88 at h
 split at h
 ·split at h
  ·rename_i hl
   injection h with h; subst h; exact ⟨nAn,p88 m _ hl⟩
  ·cases h
 ·cases h
def s4:Spec:=fun args=>match args with
 | [.str _]=>some (.bool true,[])
 | _=>none
def unL {α:Type} (f:AV→Option α):List AV→Option (List α)
 | []=>some []
 | a :: l=>match f a,unL f l with
  | some x,some xs=>some (x :: xs)
  | _,_=>none
theorem unL_map {α:Type} {f:AV→Option α} {g:α→AV} (h:∀ x,f (g x) = some x):∀ l:List α,unL f (l.map g) = some l
 | []=>rfl
 | x :: l=>by simp only [List.map_cons,unL,h x,unL_map h l]
theorem unL_inv {α:Type} {f:AV→Option α} {g:α→AV} (h:∀ a x,f a = some x→a = g x):∀ {es:List AV} {l:List α},unL f es = some l→es = l.map g
 | [],l,e=>by simp only [unL,Option.some.injEq] at e; subst e; rfl
 | a :: es,l,e=>by
  simp only [unL] at e
  split at e
  ·rename_i x xs h1 h2
   simp only [Option.some.injEq] at e
   subst e
   rw [List.map_cons,← h a x h1,← unL_inv h h2]
  ·cases e
def unS:AV→Option (List UInt8)
 | .str s=>some s
 | _=>none
theorem unS_ok (s:List UInt8):unS (.str s) = some s:=rfl
theorem unS_inv (a:AV) (x:List UInt8) (h:unS a = some x):a = .str x:=by
 unfold unS at h
 split at h
 ·injection h with h; subst h; rfl
 ·cases h
structure Lb where
 key:List UInt8
 event:Int
 know:Int
deriving DecidableEq
instance : Inhabited Lb := ⟨⟨[], 0, 0⟩⟩
def lbA (x:Lb):AV:=.agg [.str x.key,.int .i64 x.event,.int .i64 x.know]
def unLb:AV→Option Lb
 | .agg [.str k,.int .i64 a,.int .i64 b]=>some ⟨k,a,b⟩
 | _=>none
theorem unLb_ok (x:Lb):unLb (lbA x) = some x:=rfl
theorem unLb_inv (a:AV) (x:Lb) (h:unLb a = some x):a = lbA x:=by
 unfold unLb at h
 split at h
 ·injection h with h; subst h; rfl
 ·cases h
abbrev strsL (l:List (List UInt8)):List AV:=l.map .str
abbrev lbsL (l:List Lb):List AV:=l.map lbA
structure Rq where
 entity:List UInt8
 feats:List (List UInt8)
 labels:List Lb
 seed:Int
 permille:Int
deriving DecidableEq
def rqA (r:Rq):AV:=.agg [.str r.entity,.sl 1 (strsL r.feats) .no,.sl 3 (lbsL r.labels) .no,.int .i64 r.seed,.int .i64 r.permille]
def unRqN:AV→Option Rq
 | .agg [.str e,.sl a fs .no,.sl b ls .no,.int .i64 s,.int .i64 p]=>match unL unS fs,unL unLb ls with
  | some f,some l=>if a = 1∧b = 3 then some ⟨e,f,l,s,p⟩ else none
  | _,_=>none
 | _=>none
theorem unRqN_ok (r:Rq):unRqN (rqA r) = some r:=by
 simp only [unRqN,rqA,unL_map unS_ok,unL_map unLb_ok]; rfl
theorem unRqN_inv (a:AV) (x:Rq) (h:unRqN a = some x):a = rqA x:=by
 unfold unRqN at h
 split at h
 case h_2=>cases h
 split at h
 case h_2=>cases h
 rename_i h1 h2
 split at h
 case isFalse=>cases h
 rename_i hh
 injection h with h; subst h
 rw [unL_inv unS_inv h1,unL_inv unLb_inv h2,hh.1,hh.2]; rfl
def tickB (n:Int):Bool:=decide (0≤n) && decide (n≤1099511627776)
def keyC (c:UInt8):Bool:=decide (33≤c.toNat) && decide (c.toNat≤126) && !(c.toNat == 34) && !(c.toNat == 92)
def keyB (s:List UInt8):Bool:=decide (s ≠ []) && decide (s.length≤32) && s.all keyC
def keyErr (s:List UInt8):Int:=if 32 < s.length then 2 else if s = [] then 3 else if s.all keyC then 0 else 3
def lbOk (x:Lb):Bool:=keyB x.key && tickB x.event && tickB x.know
def featsOk:List (List UInt8)→List (List UInt8)→Bool
 | _,[]=>true
 | seen,f :: l=>nameR f && !seen.contains f && featsOk (seen ++ [f]) l
def headOk (r:Rq):Bool:=nameR r.entity && decide (1≤r.feats.length) && decide (r.feats.length≤8) && decide (r.labels.length≤256) && tickB r.seed && decide (0≤r.permille) && decide (r.permille≤1000)
def formB (r:Rq):Bool:=headOk r && featsOk [] r.feats && r.labels.all lbOk
def maxI:Nat:=9223372036854775807
def s40u:Spec:=fun args=>match args with
 | [.str s]=>some (.bool (nameR s),[])
 | _=>none
def sTick:Spec:=fun args=>match args with
 | [.int .i64 n]=>some (.bool (tickB n),[])
 | _=>none
def s138:Spec:=fun args=>match args with
 | [.agg [.int .i64 5,.int .i64 0,.str s]]=>some (.int .i64 (keyErr s),[])
 | _=>none
def s94:Spec:=fun args=>match args with
 | [.str s]=>some (.bool (keyB s),[])
 | _=>none
def s125:Spec:=fun args=>match args with
 | [.str s]=>if s.length≤maxI then some (.bool (keyB s),[]) else none
 | _=>none
def s93:Spec:=fun args=>match args with
 | [.agg [.str k,.int .i64 a,.int .i64 b]]=>some (.bool (!lbOk ⟨k,a,b⟩),[])
 | _=>none
def s79:Spec:=fun args=>match args with
 | [.agg [.str k,.int .i64 a,.int .i64 b]]=>if k.length≤maxI then some (.bool (lbOk ⟨k,a,b⟩),[]) else none
 | _=>none
def sIn:Spec:=fun args=>match args with
 | [.sl sz fs .no,.str x]=>match unL unS fs with
  | some l=>if sz = 1∧l.length≤maxI then some (.bool (l.contains x),[]) else none
  | none=>none
 | _=>none
def idxS (l:List (List UInt8)) (x:List UInt8):Int:=if x ∈ l then (l.takeWhile fun y=>!(x == y)).length else -1
def s136:Spec:=fun args=>match args with
 | [.sl sz fs .no,.str x]=>match unL unS fs with
  | some l=>if sz = 1∧l.length≤maxI then some (.int .i64 (idxS l x),[]) else none
  | none=>none
 | _=>none
def idxP (l:List Lb):Int:=if l.all lbOk then -1 else (l.takeWhile lbOk).length
def s137:Spec:=fun args=>match args with
 | [.sl sz ls .no,.fn 93 []]=>match unL unLb ls with
  | some l=>if sz = 3∧l.length≤maxI then some (.int .i64 (idxP l),[]) else none
  | none=>none
 | _=>none
def s92:Spec:=fun args=>match args with
 | [.sl sz ls .no,.fn 93 []]=>match unL unLb ls with
  | some l=>if sz = 3∧l.length≤maxI then some (.bool (!l.all lbOk),[]) else none
  | none=>none
 | _=>none
def keysOk (l:List Lb):Bool:=l.all fun x=>decide (x.key.length≤maxI)
def s46:Spec:=fun args=>match args with
 | [a]=>match unRqN a with
  | some r=>some (.bool (formB r),[])
  | none=>none
 | _=>none
def s33:Spec:=fun args=>match args with
 | [a]=>match unRqN a with
  | some r=>if keysOk r.labels then some (.bool (formB r),[]) else none
  | none=>none
 | _=>none
def X24:Shapes:=fun f=>match f with
 | 10 | 20 | 22 | 13 | 33 | 40 | 46 | 77 | 78 | 79 | 90 | 91 | 92 | 93 | 94 | 125 | 24=>some shB
 | 17 | 18 | 136 | 137 | 138=>some shI
 | _=>none
def a125 (s:List UInt8):Anns:=⟨fun k=>if k = 2 then some { α:=Nat,slots:=[0,3],nb:=0,vals:=fun i=>[.str s,.int .i64 i],sS:=fun _=>⟨[],[]⟩,I:=fun i=>i≤s.length∧(s.take i).all keyC = true,μ:=fun i=>s.length - i } else none,nA⟩
def cut1 (S:St) (sl:List Nat) (vs:List AV) (q:Prop):Option Ann:=some { α:=Unit,slots:=sl,nb:=S.boxes.length,vals:=fun _=>vs,sS:=fun _=>S,I:=fun _=>q,μ:=fun _=>0,keep:=some 0 }
def st138 (s:List UInt8):St:=⟨[some [.int .i64 5,.int .i64 0,.str s]],[]⟩
def a138 (s:List UInt8):Anns:=⟨fun k=>match k with
 | 20=>some { α:=Nat,slots:=[1,6,88,89],nb:=1,vals:=fun i=>[.ptr 0 0,.int .u8 33,.int .i64 s.length,.int .i64 i],sS:=fun _=>st138 s,I:=fun i=>i≤s.length∧(s.take i).all keyC = true,μ:=fun i=>s.length - i }
 | 1000003=>cut1 (st138 s) [1,3,4] [.ptr 0 0,.bool false,.bool true] True
 | 1000010=>cut1 (st138 s) [1,4] [.ptr 0 0,.bool true] True
 | 1000012=>cut1 (st138 s) [1,4] [.ptr 0 0,.bool true] True
 | 1000015=>cut1 (st138 s) [1,5,6] [.ptr 0 0,.int .i64 32,.int .u8 33] True
 | 1000017=>cut1 (st138 s) [1,6] [.ptr 0 0,.int .u8 33] (s.length≤32)
 | 1000019=>cut1 (st138 s) [1,6] [.ptr 0 0,.int .u8 33] (s.length≤32∧s ≠ [])
 | _=>none,nA⟩
def aIn (l:List (List UInt8)) (x:List UInt8):Anns:=⟨fun k=>if k = 2 then some { α:=Nat,slots:=[0,1,5],nb:=0,vals:=fun i=>[.sl 1 (strsL l) .no,.str x,.int .i64 i],sS:=fun _=>⟨[],[]⟩,I:=fun i=>i≤l.length∧(l.take i).contains x = false,μ:=fun i=>l.length - i } else none,nA⟩
def a136 (l:List (List UInt8)) (x:List UInt8):Anns:=⟨fun k=>if k = 2 then some { α:=Nat,slots:=[0,1,7,8],nb:=0,vals:=fun i=>[.sl 1 (strsL l) .no,.str x,.int .i64 l.length,.int .i64 i],sS:=fun _=>⟨[],[]⟩,I:=fun i=>i≤l.length∧∀ y ∈ l.take i,(x == y) = false,μ:=fun i=>l.length - i } else none,nA⟩
def a137 (l:List Lb):Anns:=⟨fun k=>if k = 2 then some { α:=Nat,slots:=[0,1,7,8],nb:=0,vals:=fun i=>[.sl 3 (lbsL l) .no,.fn 93 [],.int .i64 l.length,.int .i64 i],sS:=fun _=>⟨[],[]⟩,I:=fun i=>i≤l.length∧(l.take i).all lbOk = true,μ:=fun i=>l.length - i } else none,nA⟩
def stR (r:Rq):St:=⟨[some [.str r.entity,.sl 1 (strsL r.feats) .no,.sl 3 (lbsL r.labels) .no,.int .i64 r.seed,.int .i64 r.permille]],[]⟩
def a46 (r:Rq):Anns:=⟨fun k=>if k = 4 then some { α:=Nat,slots:=[1,44,45,46],nb:=1,vals:=fun i=>[.ptr 0 0,.sl 1 (strsL r.feats) .no,.int .i64 r.feats.length,.int .i64 i],sS:=fun _=>stR r,I:=fun i=>i≤r.feats.length∧featsOk [] r.feats = featsOk (r.feats.take i) (r.feats.drop i),μ:=fun i=>r.feats.length - i } else none,nA⟩
def a33 (r:Rq):Anns:=⟨fun k=>if k = 4 then some { α:=Nat,slots:=[1,3],nb:=1,vals:=fun i=>[.ptr 0 0,.int .i64 i],sS:=fun _=>stR r,I:=fun i=>i≤r.feats.length∧featsOk [] r.feats = featsOk (r.feats.take i) (r.feats.drop i),μ:=fun i=>r.feats.length - i }
 else if k = 9 then some { α:=Nat,slots:=[1,4],nb:=1,vals:=fun i=>[.ptr 0 0,.int .i64 i],sS:=fun _=>stR r,I:=fun i=>i≤r.labels.length∧featsOk [] r.feats = true∧(r.labels.take i).all lbOk = true,μ:=fun i=>r.labels.length - i } else none,nA⟩
def t46:List (FuncId × Spec):=[(40,s40u),(90,sTick),(91,sIn),(92,s92)]
def t33q:List (FuncId × Spec):=[(77,s40u),(78,sTick),(20,sIn),(79,s79)]
theorem w90 (m:Int) (n:Int) (r:AV):(pureW PQ (GQ m) X24 (tbl []) (itbl []) nAn [] 90 [.int .i64 n] (r,[])) =
((decide (n ≥ (0:Int)) = true→(decide (n≤(1099511627776:Int)) = true→RetIs (AV.bool true) [] (r,[]))∧(decide (n≤(1099511627776:Int)) = false→RetIs (AV.bool false) [] (r,[])))∧(decide (n ≥ (0:Int)) = false→RetIs (AV.bool false) [] (r,[]))):=by kernel_rfl
theorem w78 (m:Int) (n:Int) (r:AV):(pureW PQ (GQ m) X24 (tbl []) (itbl []) nAn [] 78 [.int .i64 n] (r,[])) =
((decide (n ≥ (0:Int)) = true→(decide (n≤(1099511627776:Int)) = true→RetIs (AV.bool true) [] (r,[]))∧(decide (n≤(1099511627776:Int)) = false→RetIs (AV.bool false) [] (r,[])))∧(decide (n ≥ (0:Int)) = false→RetIs (AV.bool false) [] (r,[]))):=by kernel_rfl
theorem w94 (m:Int) (s:List UInt8) (r:AV):(pureW PQ (GQ m) X24 (tbl [(138,s138)]) (itbl []) nAn [] 94 [.str s] (r,[])) =
(((!s == []) = true→∃ (n:Int),CallIs (some (AV.int IntKind.i64 (keyErr s),[])) (AV.int IntKind.i64 n) []∧((n == (0:Int)) = true→RetIs (AV.bool true) [] (r,[]))∧((n == (0:Int)) = false→RetIs (AV.bool false) [] (r,[])))∧((!s == []) = false→RetIs (AV.bool false) [] (r,[]))):=by kernel_rfl
theorem w125 (m:Int) (s:List UInt8) (r:AV):(pureW PQ (GQ m) X24 (tbl []) (itbl []) (a125 s) [] 125 [.str s] (r,[])) =
((∃ (y:Nat),ValsAre [AV.str s,I6 0] [AV.str s,I6 (↑y:Int)]∧StIs { boxes:=[],live:=[] } { boxes:=[],live:=[] }∧(y≤s.length∧(List.take y s).all keyC = true)∧True)∧∀ (x:Nat),x≤s.length∧(List.take x s).all keyC = true→(decide ((↑x:Int) < (↑s.length:Int)) = true→(0:Int)≤(↑x:Int)∧∃ (c:UInt8),s[(↑x:Int).toNat]? = some c∧(decide ((↑c.toNat:Int) < (33:Int)) = true→RetIs (AV.bool false) [] (r,[]))∧(decide ((↑c.toNat:Int) < (33:Int)) = false→(0:Int)≤(↑x:Int)∧∃ (c:UInt8),s[(↑x:Int).toNat]? = some c∧(decide ((↑c.toNat:Int) > (126:Int)) = true→RetIs (AV.bool false) [] (r,[]))∧(decide ((↑c.toNat:Int) > (126:Int)) = false→(0:Int)≤(↑x:Int)∧∃ (c:UInt8),s[(↑x:Int).toNat]? = some c∧(((↑c.toNat:Int) == (34:Int)) = true→RetIs (AV.bool false) [] (r,[]))∧(((↑c.toNat:Int) == (34:Int)) = false→(0:Int)≤(↑x:Int)∧∃ (c:UInt8),s[(↑x:Int).toNat]? = some c∧(((↑c.toNat:Int) == (92:Int)) = true→RetIs (AV.bool false) [] (r,[]))∧(((↑c.toNat:Int) == (92:Int)) = false→∃ (y:Nat),ValsAre [AV.str s,I6 (IntKind.i64.wrap ((↑x:Int) + (1:Int)))] [AV.str s,I6 (↑y:Int)]∧StIs { boxes:=[],live:=[] } { boxes:=[],live:=[] }∧(y≤s.length∧(List.take y s).all keyC = true)∧s.length - y < s.length - x)))))∧(decide ((↑x:Int) < (↑s.length:Int)) = false→(decide ((↑s.length:Int) ≥ (1:Int)) = true→(decide ((↑s.length:Int)≤(32:Int)) = true→RetIs (AV.bool true) [] (r,[]))∧(decide ((↑s.length:Int)≤(32:Int)) = false→RetIs (AV.bool false) [] (r,[])))∧(decide ((↑s.length:Int) ≥ (1:Int)) = false→RetIs (AV.bool false) [] (r,[])))):=by kernel_rfl
theorem w93 (m:Int) (x:Lb) (r:AV):(pureW PQ (GQ m) X24 (tbl [(94,s94),(90,sTick)]) (itbl []) nAn [] 93 [.agg [.str x.key,.int .i64 x.event,.int .i64 x.know]] (r,[])) =
(∃ (b:Bool),CallIs (some (AV.bool (keyB x.key),[])) (AV.bool b) []∧(b = true→∃ (b:Bool),CallIs (some (AV.bool (tickB x.event),[])) (AV.bool b) []∧(b = true→∃ (b:Bool),CallIs (some (AV.bool (tickB x.know),[])) (AV.bool b) []∧(b = true→RetIs (AV.bool false) [] (r,[]))∧(b = false→RetIs (AV.bool true) [] (r,[])))∧(b = false→RetIs (AV.bool true) [] (r,[])))∧(b = false→RetIs (AV.bool true) [] (r,[]))):=by kernel_rfl
theorem w79 (m:Int) (x:Lb) (r:AV):(pureW PQ (GQ m) X24 (tbl [(125,s125),(78,sTick)]) (itbl []) nAn [] 79 [.agg [.str x.key,.int .i64 x.event,.int .i64 x.know]] (r,[])) =
(∃ (b:Bool),CallIs (tbl [(125,s125),(78,sTick)] 125 [AV.str x.key]) (AV.bool b) []∧(b = true→∃ (b:Bool),CallIs (some (AV.bool (tickB x.event),[])) (AV.bool b) []∧(b = true→∃ (b:Bool),CallIs (some (AV.bool (tickB x.know),[])) (AV.bool b) []∧(b = true→RetIs (AV.bool true) [] (r,[]))∧(b = false→RetIs (AV.bool false) [] (r,[])))∧(b = false→RetIs (AV.bool false) [] (r,[])))∧(b = false→RetIs (AV.bool false) [] (r,[]))):=by kernel_rfl
theorem w20 (m:Int) (l:List (List UInt8)) (x:List UInt8) (r:AV):(pureW PQ (GQ m) X24 (tbl []) (itbl []) (aIn l x) [] 20 [.sl 1 (strsL l) .no,.str x] (r,[])) =
((∃ (y:Nat),ValsAre [AV.sl 1 (strsL l) Own.no,AV.str x,I6 0] [AV.sl 1 (strsL l) Own.no,AV.str x,I6 (↑y:Int)]∧StIs { boxes:=[],live:=[] } { boxes:=[],live:=[] }∧(y≤l.length∧(List.take y l).contains x = false)∧True)∧∀ (x_1:Nat),x_1≤l.length∧(List.take x_1 l).contains x = false→(decide ((↑x_1:Int) < (↑(strsL l).length:Int)) = true→((0:Int)≤(↑x_1:Int)∧(↑x_1:Int) < (↑(strsL l).length:Int))∧∃ (s:List UInt8),takeAt PQ 9 (strsL l) (↑x_1:Int).toNat 0 = some (AV.str s)∧((s == x) = true→RetIs (AV.bool true) [] (r,[]))∧((s == x) = false→∃ (y:Nat),ValsAre [AV.sl 1 (strsL l) Own.no,AV.str x,I6 (IntKind.i64.wrap ((↑x_1:Int) + (1:Int)))] [AV.sl 1 (strsL l) Own.no,AV.str x,I6 (↑y:Int)]∧StIs { boxes:=[],live:=[] } { boxes:=[],live:=[] }∧(y≤l.length∧(List.take y l).contains x = false)∧l.length - y < l.length - x_1))∧(decide ((↑x_1:Int) < (↑(strsL l).length:Int)) = false→RetIs (AV.bool false) [] (r,[]))):=by kernel_rfl
theorem w136 (m:Int) (l:List (List UInt8)) (x:List UInt8) (r:AV):(pureW PQ (GQ m) X24 (tbl []) (itbl []) (a136 l x) [] 136 [.sl 1 (strsL l) .no,.str x] (r,[])) =
((∃ (y:Nat),ValsAre [AV.sl 1 (strsL l) Own.no,AV.str x,I6 (↑(strsL l).length:Int),I6 0] [AV.sl 1 (strsL l) Own.no,AV.str x,I6 (↑l.length:Int),I6 (↑y:Int)]∧StIs { boxes:=[],live:=[] } { boxes:=[],live:=[] }∧(y≤l.length∧∀ (y_1:List UInt8),y_1 ∈ List.take y l→(x == y_1) = false)∧True)∧∀ (x_1:Nat),(x_1≤l.length∧∀ (y:List UInt8),y ∈ List.take x_1 l→(x == y) = false)→(decide ((↑x_1:Int) < (↑l.length:Int)) = true→((0:Int)≤(↑x_1:Int)∧(↑x_1:Int) < (↑(strsL l).length:Int))∧∃ (s:List UInt8),takeAt PQ 9 (strsL l) (↑x_1:Int).toNat 0 = some (AV.str s)∧((x == s) = true→RetIs (I6 (↑x_1:Int)) [] (r,[]))∧((x == s) = false→∃ (y:Nat),ValsAre [AV.sl 1 (strsL l) Own.no,AV.str x,I6 (↑l.length:Int),I6 (IntKind.i64.wrap ((↑x_1:Int) + (1:Int)))] [AV.sl 1 (strsL l) Own.no,AV.str x,I6 (↑l.length:Int),I6 (↑y:Int)]∧StIs { boxes:=[],live:=[] } { boxes:=[],live:=[] }∧(y≤l.length∧∀ (y_1:List UInt8),y_1 ∈ List.take y l→(x == y_1) = false)∧l.length - y < l.length - x_1))∧(decide ((↑x_1:Int) < (↑l.length:Int)) = false→RetIs (I6 (-1)) [] (r,[]))):=by kernel_rfl
theorem w91 (m:Int) (l:List (List UInt8)) (x:List UInt8) (r:AV):(pureW PQ (GQ m) X24 (tbl [(136,s136)]) (itbl []) nAn [] 91 [.sl 1 (strsL l) .no,.str x] (r,[])) =
(∃ (n:Int),CallIs (tbl [(136,s136)] 136 [AV.sl 1 (strsL l) Own.no,AV.str x]) (AV.int IntKind.i64 n) []∧(decide (n ≥ (0:Int)) = true→RetIs (AV.bool true) [] (r,[]))∧(decide (n ≥ (0:Int)) = false→RetIs (AV.bool false) [] (r,[]))):=by kernel_rfl
theorem w137 (m:Int) (l:List Lb) (r:AV):(pureW PQ (GQ m) X24 (tbl [(93,s93)]) (itbl []) (a137 l) [] 137 [.sl 3 (lbsL l) .no,.fn 93 []] (r,[])) =
((∃ (y:Nat),ValsAre [AV.sl 3 (lbsL l) Own.no,AV.fn 93 [],I6 (↑(lbsL l).length:Int),I6 0] [AV.sl 3 (lbsL l) Own.no,AV.fn 93 [],I6 (↑l.length:Int),I6 (↑y:Int)]∧StIs { boxes:=[],live:=[] } { boxes:=[],live:=[] }∧(y≤l.length∧(List.take y l).all lbOk = true)∧True)∧∀ (x:Nat),x≤l.length∧(List.take x l).all lbOk = true→(decide ((↑x:Int) < (↑l.length:Int)) = true→((0:Int)≤(↑x:Int)∧(↑x:Int) < (↑(lbsL l).length:Int))∧∃ (s:List UInt8),∃ (n:Int),∃ (n_1:Int),takeAt PQ 65 (lbsL l) (↑x:Int).toNat 0 = some (AV.agg [AV.str s,I6 n,I6 n_1])∧∃ (b:Bool),CallIs (some (AV.bool !lbOk { key:=s,event:=n,know:=n_1 },[])) (AV.bool b) []∧(b = true→RetIs (I6 (↑x:Int)) [] (r,[]))∧(b = false→∃ (y:Nat),ValsAre [AV.sl 3 (lbsL l) Own.no,AV.fn 93 [],I6 (↑l.length:Int),I6 (IntKind.i64.wrap ((↑x:Int) + (1:Int)))] [AV.sl 3 (lbsL l) Own.no,AV.fn 93 [],I6 (↑l.length:Int),I6 (↑y:Int)]∧StIs { boxes:=[],live:=[] } { boxes:=[],live:=[] }∧(y≤l.length∧(List.take y l).all lbOk = true)∧l.length - y < l.length - x))∧(decide ((↑x:Int) < (↑l.length:Int)) = false→RetIs (I6 (-1)) [] (r,[]))):=by kernel_rfl
theorem w92 (m:Int) (l:List Lb) (r:AV):(pureW PQ (GQ m) X24 (tbl [(137,s137)]) (itbl []) nAn [] 92 [.sl 3 (lbsL l) .no,.fn 93 []] (r,[])) =
(∃ (n:Int),CallIs (tbl [(137,s137)] 137 [AV.sl 3 (lbsL l) Own.no,AV.fn 93 []]) (AV.int IntKind.i64 n) []∧(decide (n ≥ (0:Int)) = true→RetIs (AV.bool true) [] (r,[]))∧(decide (n ≥ (0:Int)) = false→RetIs (AV.bool false) [] (r,[]))):=by kernel_rfl
abbrev w46c1 (x:Rq):St:={ boxes:=[some [AV.str x.entity,AV.sl 1 (strsL x.feats) Own.no,AV.sl 3 (lbsL x.labels) Own.no,AV.int IntKind.i64 x.seed,AV.int IntKind.i64 x.permille]],live:=[] }
abbrev w46c2 (x:Rq) (y:Nat):List AV:=[AV.ptr 0 0,AV.sl 1 (strsL x.feats) Own.no,AV.int IntKind.i64 (↑x.feats.length:Int),AV.int IntKind.i64 (↑y:Int)]
theorem w46 (m:Int) (x:Rq) (r:AV):(pureW PQ (GQ m) X24 (tbl t46) (itbl []) (a46 x) [] 46 [rqA x] (r,[])) =
(∃ (b:Bool),CallIs (some (AV.bool (nameR x.entity),[])) (AV.bool b) []∧(b = true→(decide ((↑(strsL x.feats).length:Int) < (1:Int)) = true→RetIs (AV.bool false) [] (r,[]))∧(decide ((↑(strsL x.feats).length:Int) < (1:Int)) = false→(decide ((↑(strsL x.feats).length:Int) > (8:Int)) = true→RetIs (AV.bool false) [] (r,[]))∧(decide ((↑(strsL x.feats).length:Int) > (8:Int)) = false→(decide ((↑(lbsL x.labels).length:Int) > (256:Int)) = true→RetIs (AV.bool false) [] (r,[]))∧(decide ((↑(lbsL x.labels).length:Int) > (256:Int)) = false→∃ (b:Bool),CallIs (some (AV.bool (tickB x.seed),[])) (AV.bool b) []∧(b = true→(decide (x.permille < (0:Int)) = true→RetIs (AV.bool false) [] (r,[]))∧(decide (x.permille < (0:Int)) = false→(decide (x.permille > (1000:Int)) = true→RetIs (AV.bool false) [] (r,[]))∧(decide (x.permille > (1000:Int)) = false→(∃ (y:Nat),ValsAre [AV.ptr 0 0,AV.sl 1 (strsL x.feats) Own.no,I6 (↑(strsL x.feats).length:Int),I6 0] (w46c2 x y)∧StIs (w46c1 x) (w46c1 x)∧(y≤x.feats.length∧featsOk [] x.feats = featsOk (List.take y x.feats) (List.drop y x.feats))∧True)∧∀ (x_1:Nat),x_1≤x.feats.length∧featsOk [] x.feats = featsOk (List.take x_1 x.feats) (List.drop x_1 x.feats)→(decide ((↑x_1:Int) < (↑x.feats.length:Int)) = true→((0:Int)≤(↑x_1:Int)∧(↑x_1:Int) < (↑(strsL x.feats).length:Int))∧∃ (s:List UInt8),takeAt PQ 9 (strsL x.feats) (↑x_1:Int).toNat 0 = some (AV.str s)∧∃ (b:Bool),CallIs (some (AV.bool (nameR s),[])) (AV.bool b) []∧(b = true→(0:Int)≤(↑x_1:Int)∧((0:Nat)≤(↑x_1:Int).toNat∧(↑x_1:Int).toNat≤(strsL x.feats).length)∧((1:Nat) = (1:Nat)∨strsL x.feats = [])∧∃ (b:Bool),CallIs (tbl [(40,s40u),(90,sTick),(91,sIn),(92,s92)] 91 [AV.sl 1 (List.drop 0 (List.take (↑x_1:Int).toNat (strsL x.feats))) Own.no,AV.str s]) (AV.bool b) []∧(b = true→RetIs (AV.bool false) [] (r,[]))∧(b = false→∃ (y:Nat),ValsAre [AV.ptr 0 0,AV.sl 1 (strsL x.feats) Own.no,I6 (↑x.feats.length:Int),I6 (IntKind.i64.wrap ((↑x_1:Int) + (1:Int)))] (w46c2 x y)∧StIs (w46c1 x) (w46c1 x)∧(y≤x.feats.length∧featsOk [] x.feats = featsOk (List.take y x.feats) (List.drop y x.feats))∧x.feats.length - y < x.feats.length - x_1))∧(b = false→RetIs (AV.bool false) [] (r,[])))∧(decide ((↑x_1:Int) < (↑x.feats.length:Int)) = false→∃ (b:Bool),CallIs (tbl [(40,s40u),(90,sTick),(91,sIn),(92,s92)] 92 [AV.sl 3 (lbsL x.labels) Own.no,AV.fn 93 []]) (AV.bool b) []∧(b = true→RetIs (AV.bool false) [] (r,[]))∧(b = false→RetIs (AV.bool true) [] (r,[]))))))∧(b = false→RetIs (AV.bool false) [] (r,[]))))))∧(b = false→RetIs (AV.bool false) [] (r,[]))):=by kernel_rfl
abbrev w33c1 (x:Rq):St:={ boxes:=[some [AV.str x.entity,AV.sl 1 (strsL x.feats) Own.no,AV.sl 3 (lbsL x.labels) Own.no,AV.int IntKind.i64 x.seed,AV.int IntKind.i64 x.permille]],live:=[] }
abbrev w33c2 (y:Nat):List AV:=[AV.ptr 0 0,AV.int IntKind.i64 (↑y:Int)]
theorem w33 (m:Int) (x:Rq) (r:AV):(pureW PQ (GQ m) X24 (tbl t33q) (itbl []) (a33 x) [] 33 [rqA x] (r,[])) =
(∃ (b:Bool),CallIs (some (AV.bool (nameR x.entity),[])) (AV.bool b) []∧(b = true→(decide ((↑(strsL x.feats).length:Int) < (1:Int)) = true→RetIs (AV.bool false) [] (r,[]))∧(decide ((↑(strsL x.feats).length:Int) < (1:Int)) = false→(decide ((↑(strsL x.feats).length:Int) > (8:Int)) = true→RetIs (AV.bool false) [] (r,[]))∧(decide ((↑(strsL x.feats).length:Int) > (8:Int)) = false→(decide ((↑(lbsL x.labels).length:Int) > (256:Int)) = true→RetIs (AV.bool false) [] (r,[]))∧(decide ((↑(lbsL x.labels).length:Int) > (256:Int)) = false→∃ (b:Bool),CallIs (some (AV.bool (tickB x.seed),[])) (AV.bool b) []∧(b = true→(decide (x.permille < (0:Int)) = true→RetIs (AV.bool false) [] (r,[]))∧(decide (x.permille < (0:Int)) = false→(decide (x.permille > (1000:Int)) = true→RetIs (AV.bool false) [] (r,[]))∧(decide (x.permille > (1000:Int)) = false→(∃ (y:Nat),ValsAre [AV.ptr 0 0,I6 0] (w33c2 y)∧StIs (w33c1 x) (w33c1 x)∧(y≤x.feats.length∧featsOk [] x.feats = featsOk (List.take y x.feats) (List.drop y x.feats))∧True)∧∀ (x_1:Nat),x_1≤x.feats.length∧featsOk [] x.feats = featsOk (List.take x_1 x.feats) (List.drop x_1 x.feats)→(decide ((↑x_1:Int) < (↑(strsL x.feats).length:Int)) = true→((0:Int)≤(↑x_1:Int)∧(↑x_1:Int) < (↑(strsL x.feats).length:Int))∧∃ (s:List UInt8),takeAt PQ 9 (strsL x.feats) (↑x_1:Int).toNat 0 = some (AV.str s)∧∃ (b:Bool),CallIs (some (AV.bool (nameR s),[])) (AV.bool b) []∧(b = true→(0:Int)≤(↑x_1:Int)∧((0:Nat)≤(↑x_1:Int).toNat∧(↑x_1:Int).toNat≤(strsL x.feats).length)∧((1:Nat) = (1:Nat)∨strsL x.feats = [])∧((0:Int)≤(↑x_1:Int)∧(↑x_1:Int) < (↑(strsL x.feats).length:Int))∧∃ (s:List UInt8),takeAt PQ 9 (strsL x.feats) (↑x_1:Int).toNat 0 = some (AV.str s)∧∃ (b:Bool),CallIs (tbl [(77,s40u),(78,sTick),(20,sIn),(79,s79)] 20 [AV.sl 1 (List.drop 0 (List.take (↑x_1:Int).toNat (strsL x.feats))) Own.no,AV.str s]) (AV.bool b) []∧(b = true→RetIs (AV.bool false) [] (r,[]))∧(b = false→∃ (y:Nat),ValsAre [AV.ptr 0 0,I6 (IntKind.i64.wrap ((↑x_1:Int) + (1:Int)))] (w33c2 y)∧StIs (w33c1 x) (w33c1 x)∧(y≤x.feats.length∧featsOk [] x.feats = featsOk (List.take y x.feats) (List.drop y x.feats))∧x.feats.length - y < x.feats.length - x_1))∧(b = false→RetIs (AV.bool false) [] (r,[])))∧(decide ((↑x_1:Int) < (↑(strsL x.feats).length:Int)) = false→(∃ (y:Nat),ValsAre [AV.ptr 0 0,I6 0] (w33c2 y)∧StIs (w33c1 x) (w33c1 x)∧(y≤x.labels.length∧featsOk [] x.feats = true∧(List.take y x.labels).all lbOk = true)∧True)∧∀ (x_2:Nat),x_2≤x.labels.length∧featsOk [] x.feats = true∧(List.take x_2 x.labels).all lbOk = true→(decide ((↑x_2:Int) < (↑(lbsL x.labels).length:Int)) = true→((0:Int)≤(↑x_2:Int)∧(↑x_2:Int) < (↑(lbsL x.labels).length:Int))∧∃ (s:List UInt8),∃ (n:Int),∃ (n_1:Int),takeAt PQ 65 (lbsL x.labels) (↑x_2:Int).toNat 0 = some (AV.agg [AV.str s,I6 n,I6 n_1])∧∃ (b:Bool),CallIs (tbl [(77,s40u),(78,sTick),(20,sIn),(79,s79)] 79 [AV.agg [AV.str s,I6 n,I6 n_1]]) (AV.bool b) []∧(b = true→∃ (y:Nat),ValsAre [AV.ptr 0 0,I6 (IntKind.i64.wrap ((↑x_2:Int) + (1:Int)))] (w33c2 y)∧StIs (w33c1 x) (w33c1 x)∧(y≤x.labels.length∧featsOk [] x.feats = true∧(List.take y x.labels).all lbOk = true)∧x.labels.length - y < x.labels.length - x_2)∧(b = false→RetIs (AV.bool false) [] (r,[])))∧(decide ((↑x_2:Int) < (↑(lbsL x.labels).length:Int)) = false→RetIs (AV.bool true) [] (r,[]))))))∧(b = false→RetIs (AV.bool false) [] (r,[]))))))∧(b = false→RetIs (AV.bool false) [] (r,[]))):=by kernel_rfl
abbrev w138c7:List AV:=[AV.ptr 0 0,AV.bool false,AV.bool true]
abbrev w138c2 (s:List UInt8):St:={ boxes:=[some [AV.int IntKind.i64 5,AV.int IntKind.i64 0,AV.str s]],live:=[] }
abbrev w138c13 (r:AV):Prop:=false = true→RetIs (AV.int IntKind.i64 2) [] (r,[])
abbrev w138c10:List AV:=[AV.ptr 0 0,AV.bool true]
abbrev w138c4 (r:AV) (s:List UInt8):Prop:=(false = true→RetIs (I6 1) [] (r,[]))∧(false = false→(false = true→RetIs (I6 1) [] (r,[]))∧(false = false→(false = true→(true = true→RetIs (I6 1) [] (r,[]))∧(true = false→(true = true→RetIs (I6 1) [] (r,[]))∧(true = false→(w138c13 r)∧(false = false→(w138c13 r)∧(false = false→∃ (_y:Unit),ValsAre w138c10 w138c10∧StIs (w138c2 s) (w138c2 s)∧True∧True)))))∧(false = false→(w138c13 r)∧(false = false→(w138c13 r)∧(false = false→∃ (_y:Unit),ValsAre w138c10 w138c10∧StIs (w138c2 s) (w138c2 s)∧True∧True)))))
abbrev w138c12:List AV:=[AV.ptr 0 0,AV.int IntKind.i64 32,AV.int IntKind.u8 33]
abbrev w138c6 (s:List UInt8):Prop:=(true = true→∃ (_y:Unit),ValsAre w138c12 w138c12∧StIs (w138c2 s) (w138c2 s)∧True∧True)∧(true = false→∃ (_y:Unit),ValsAre [AV.ptr 0 0,AV.int IntKind.i64 64,AV.int IntKind.u8 32] w138c12∧StIs (w138c2 s) (w138c2 s)∧True∧True)
abbrev w138c5:List AV:=[AV.ptr 0 0,AV.int IntKind.u8 33]
abbrev w138c11 (s:List UInt8) (r:AV):Prop:=(decide ((↑s.length:Int) > (32:Int)) = true→RetIs (AV.int IntKind.i64 2) [] (r,[]))∧(decide ((↑s.length:Int) > (32:Int)) = false→∃ (_y:Unit),ValsAre w138c5 w138c5∧StIs (w138c2 s) (w138c2 s)∧s.length≤(32:Nat)∧True)
abbrev w138c9 (s:List UInt8) (r:AV):Prop:=(true = true→((s == []) = true→RetIs (AV.int IntKind.i64 3) [] (r,[]))∧((s == []) = false→∃ (_y:Unit),ValsAre w138c5 w138c5∧StIs (w138c2 s) (w138c2 s)∧(s.length≤(32:Nat)∧s ≠ [])∧True))∧(true = false→∃ (_y:Unit),ValsAre w138c5 w138c5∧StIs (w138c2 s) (w138c2 s)∧(s.length≤(32:Nat)∧s ≠ [])∧True)
abbrev w138c8 (s:List UInt8):Prop:=∃ (y:Nat),ValsAre [AV.ptr 0 0,AV.int IntKind.u8 33,I6 (↑s.length:Int),I6 0] [AV.ptr 0 0,AV.int IntKind.u8 33,I6 (↑s.length:Int),I6 (↑y:Int)]∧StIs (w138c2 s) (w138c2 s)∧(y≤s.length∧(List.take y s).all keyC = true)∧True
abbrev w138c3 (x:Nat) (s:List UInt8) (r:AV):Prop:=decide ((↑x:Int) < (↑s.length:Int)) = true→(0:Int)≤(↑x:Int)∧∃ (c:UInt8),s[(↑x:Int).toNat]? = some c∧(decide ((↑c.toNat:Int) < (33:Int)) = true→RetIs (I6 3) [] (r,[]))∧(decide ((↑c.toNat:Int) < (33:Int)) = false→(decide ((↑c.toNat:Int) > (126:Int)) = true→RetIs (I6 3) [] (r,[]))∧(decide ((↑c.toNat:Int) > (126:Int)) = false→(((↑c.toNat:Int) == (34:Int)) = true→RetIs (I6 3) [] (r,[]))∧(((↑c.toNat:Int) == (34:Int)) = false→(((↑c.toNat:Int) == (92:Int)) = true→RetIs (I6 3) [] (r,[]))∧(((↑c.toNat:Int) == (92:Int)) = false→∃ (y:Nat),ValsAre [AV.ptr 0 0,AV.int IntKind.u8 33,I6 (↑s.length:Int),I6 (IntKind.i64.wrap ((↑x:Int) + (1:Int)))] [AV.ptr 0 0,AV.int IntKind.u8 33,I6 (↑s.length:Int),I6 (↑y:Int)]∧StIs (w138c2 s) (w138c2 s)∧(y≤s.length∧(List.take y s).all keyC = true)∧s.length - y < s.length - x))))
abbrev w138c1 (s:List UInt8) (r:AV):Prop:=false = true→((false = true→∃ (_y:Unit),ValsAre [AV.ptr 0 0,AV.bool true,AV.bool true] w138c7∧StIs (w138c2 s) (w138c2 s)∧True∧True)∧(false = false→(true = true→∃ (_y:Unit),ValsAre [AV.ptr 0 0,AV.bool true,AV.bool true] w138c7∧StIs (w138c2 s) (w138c2 s)∧True∧True)∧(true = false→∃ (_y:Unit),ValsAre [AV.ptr 0 0,AV.bool true,AV.bool false] w138c7∧StIs (w138c2 s) (w138c2 s)∧True∧True)))∧∀ (_x:Unit),True→True→(w138c4 r s)∧∀ (_x:Unit),True→True→(∃ (_y:Unit),ValsAre w138c10 w138c10∧StIs (w138c2 s) (w138c2 s)∧True∧True)∧∀ (_x:Unit),True→True→(w138c6 s)∧∀ (_x:Unit),True→True→(w138c11 s r)∧∀ (_x:Unit),s.length≤(32:Nat)→True→(w138c9 s r)∧∀ (_x:Unit),s.length≤(32:Nat)∧s ≠ []→True→(w138c8 s)∧∀ (x:Nat),x≤s.length∧(List.take x s).all keyC = true→(w138c3 x s r)∧(decide ((↑x:Int) < (↑s.length:Int)) = false→RetIs (AV.int IntKind.i64 0) [] (r,[]))
theorem w138 (m:Int) (s:List UInt8) (r:AV):(pureW PQ (GQ m) X24 (tbl []) (itbl []) (a138 s) [] 138 [.agg [.int .i64 5,.int .i64 0,.str s]] (r,[])) =
((w138c1 s r)∧(false = false→(w138c1 s r)∧(false = false→((false = true→∃ (_y:Unit),ValsAre w138c7 w138c7∧StIs (w138c2 s) (w138c2 s)∧True∧True)∧(false = false→(true = true→∃ (_y:Unit),ValsAre w138c7 w138c7∧StIs (w138c2 s) (w138c2 s)∧True∧True)∧(true = false→∃ (_y:Unit),ValsAre [AV.ptr 0 0,AV.bool false,AV.bool false] w138c7∧StIs (w138c2 s) (w138c2 s)∧True∧True)))∧∀ (_x:Unit),True→True→(w138c4 r s)∧∀ (_x:Unit),True→True→(∃ (_y:Unit),ValsAre w138c10 w138c10∧StIs (w138c2 s) (w138c2 s)∧True∧True)∧∀ (_x:Unit),True→True→(w138c6 s)∧∀ (_x:Unit),True→True→(w138c11 s r)∧∀ (_x:Unit),s.length≤(32:Nat)→True→(w138c9 s r)∧∀ (_x:Unit),s.length≤(32:Nat)∧s ≠ []→True→(w138c8 s)∧∀ (x:Nat),x≤s.length∧(List.take x s).all keyC = true→(w138c3 x s r)∧(decide ((↑x:Int) < (↑s.length:Int)) = false→RetIs (AV.int IntKind.i64 0) [] (r,[]))))):=by kernel_rfl
theorem agg9q:aggA PQ 9 = some false:=by kernel_rfl
theorem size9q:sizeA PQ 9 = some 1:=by kernel_rfl
theorem agg65q:aggA PQ 65 = some true:=by kernel_rfl
theorem size65q:sizeA PQ 65 = some 3:=by kernel_rfl
theorem wrapI {i:Nat} (h:i + 1≤9223372036854775807):IntKind.i64.wrap ((i:Int) + 1) = ((i + 1:Nat):Int):=by
 rw [wrap64_in (by omega) (by omega)]; omega
theorem take_str {l:List (List UInt8)} {i:Nat} (h:i < l.length):takeAt PQ 9 (strsL l) i 0 = some (.str l[i]):=by
 unfold takeAt
 rw [List.getElem?_map,List.getElem?_eq_getElem h]
 simp only [Option.map_some,agg9q,size9q,takeA]
 rfl
theorem take_lb {l:List Lb} {i:Nat} (h:i < l.length):takeAt PQ 65 (lbsL l) i 0 = some (.agg [.str l[i].key,.int .i64 l[i].event,.int .i64 l[i].know]):=by
 unfold takeAt
 rw [List.getElem?_map,List.getElem?_eq_getElem h]
 simp only [Option.map_some,agg65q,size65q,takeA]
 rfl
theorem all_notQ {α:Type} {p:α→Bool} {l:List α} {i:Nat} (h:i < l.length) (hp:p l[i] = false):l.all p = false:=by
 rw [← Bool.not_eq_true,List.all_eq_true]
 intro hh
 have:=hh _ (List.getElem_mem h)
 rw [hp] at this; cases this
theorem all_succQ {α:Type} {p:α→Bool} {l:List α} {i:Nat} (h:i < l.length) (h1:(l.take i).all p = true) (hp:p l[i] = true):(l.take (i + 1)).all p = true:=by
 rw [List.take_succ_eq_append_getElem h,List.all_append,h1]; simp [hp]
theorem all_take {α:Type} {p:α→Bool} {l:List α} {i:Nat} (h:¬ i < l.length) (h1:(l.take i).all p = true):l.all p = true:=by
 rwa [List.take_of_length_le (by omega)] at h1
theorem tick_lo {n:Int} (h:decide (n ≥ 0) = false):tickB n = false:=by
 have:=of_decide_eq_false h
 unfold tickB
 rw [decide_eq_false (by omega)]; rfl
theorem tick_hi {n:Int} (h:decide (n≤1099511627776) = false):tickB n = false:=by
 have:=of_decide_eq_false h
 unfold tickB
 rw [decide_eq_false this,Bool.and_false]
theorem tick_ok {n:Int} (h:decide (n ≥ 0) = true) (h2:decide (n≤1099511627776) = true):tickB n = true:=by
 have:=of_decide_eq_true h
 unfold tickB
 rw [decide_eq_true this,h2]; rfl
theorem p90 (m:Int) (n:Int):PureOk PQ (GQ m) X24 (tbl []) (itbl []) nAn [] 90 [.int .i64 n] (.bool (tickB n),[]):=by
 constructor
 rw [w90]
 exact ⟨fun h=>⟨fun h2=>⟨by rw [tick_ok h h2]⟩,fun h2=>⟨by rw [tick_hi h2]⟩⟩,fun h=>⟨by rw [tick_lo h]⟩⟩
theorem p78 (m:Int) (n:Int):PureOk PQ (GQ m) X24 (tbl []) (itbl []) nAn [] 78 [.int .i64 n] (.bool (tickB n),[]):=by
 constructor
 rw [w78]
 exact ⟨fun h=>⟨fun h2=>⟨by rw [tick_ok h h2]⟩,fun h2=>⟨by rw [tick_hi h2]⟩⟩,fun h=>⟨by rw [tick_lo h]⟩⟩
theorem o90 (m:Int):SpecOk PQ (GQ m) 90 sTick:=spec_of (X:=X24) (m:=[]) mixedQ tbl_nil itbl_nil fun args r h=>by
 unfold sTick at h
 split at h
 case h_2=>cases h
 injection h with h; subst h
 exact ⟨_,p90 m _⟩
theorem o78 (m:Int):SpecOk PQ (GQ m) 78 sTick:=spec_of (X:=X24) (m:=[]) mixedQ tbl_nil itbl_nil fun args r h=>by
 unfold sTick at h
 split at h
 case h_2=>cases h
 injection h with h; subst h
 exact ⟨_,p78 m _⟩
theorem keyC_bad {c:UInt8} (h:decide ((c.toNat:Int) < 33) = true∨decide ((c.toNat:Int) > 126) = true∨((c.toNat:Int) == 34) = true∨((c.toNat:Int) == 92) = true):keyC c = false:=by
 unfold keyC
 rcases h with h | h | h | h
 ·rw [decide_eq_false (by have:=of_decide_eq_true h; omega)]; rfl
 ·rw [decide_eq_false (p:=c.toNat≤126) (by have:=of_decide_eq_true h; omega),Bool.and_false]; rfl
 ·have:c.toNat = 34:=by have:=eq_of_beq h; omega
  rw [this]; rfl
 ·have:c.toNat = 92:=by have:=eq_of_beq h; omega
  rw [this]; rfl
theorem keyC_good {c:UInt8} (h1:decide ((c.toNat:Int) < 33) = false) (h2:decide ((c.toNat:Int) > 126) = false) (h3:((c.toNat:Int) == 34) = false) (h4:((c.toNat:Int) == 92) = false):keyC c = true:=by
 have a1:=of_decide_eq_false h1
 have a2:=of_decide_eq_false h2
 have a3:c.toNat ≠ 34:=fun e=>by rw [e] at h3; cases h3
 have a4:c.toNat ≠ 92:=fun e=>by rw [e] at h4; cases h4
 unfold keyC
 simp [a3,a4]; omega
theorem key_len {s:List UInt8} (h:32 < s.length):keyB s = false:=by
 unfold keyB; rw [decide_eq_false (p:=s.length≤32) (by omega)]; simp
theorem key_bad {s:List UInt8} (h:s.all keyC = false):keyB s = false:=by
 unfold keyB; rw [h,Bool.and_false]
theorem p125 (m:Int) (s:List UInt8) (hs:s.length≤maxI):PureOk PQ (GQ m) X24 (tbl []) (itbl []) (a125 s) [] 125 [.str s] (.bool (keyB s),[]):=by
 constructor
 rw [w125]; unfold I6
 unfold maxI at hs
 refine ⟨⟨0,⟨rfl⟩,⟨rfl⟩,⟨Nat.zero_le _,by rw [List.take_zero]; rfl⟩,trivial⟩,fun i hi=>⟨fun lt=>?_,fun ge=>⟨fun c=>⟨fun d=>?_,fun d=>?_⟩,fun c=>?_⟩⟩⟩
 ·have lt:=of_decide_eq_true lt
  have hil:i < s.length:=by omega
  have hg:s[(i:Int).toNat]? = some s[i]:=by rw [Int.toNat_natCast]; exact List.getElem?_eq_getElem hil
  have no:keyC s[i] = false→RetIs (AV.bool false) [] (AV.bool (keyB s),[]):=fun h=>⟨by rw [key_bad (all_notQ hil h)]⟩
  refine ⟨by omega,_,hg,fun c1=>no (keyC_bad (.inl c1)),fun c1=>⟨by omega,_,hg,fun c2=>no (keyC_bad (.inr (.inl c2))),fun c2=>⟨by omega,_,hg,fun c3=>no (keyC_bad (.inr (.inr (.inl c3)))),fun c3=>⟨by omega,_,hg,fun c4=>no (keyC_bad (.inr (.inr (.inr c4)))),fun c4=>?_⟩⟩⟩⟩
  exact ⟨i + 1,⟨by rw [wrapI (by omega)]⟩,⟨rfl⟩,⟨hil,all_succQ hil hi.2 (keyC_good c1 c2 c3 c4)⟩,by omega⟩
 ·have ge:=of_decide_eq_false ge
  have c:=of_decide_eq_true c
  refine ⟨?_⟩
  unfold keyB
  rw [all_take (by omega) hi.2,decide_eq_true (p:=s ≠ []) (by intro e; subst e; simp at c),decide_eq_true (p:=s.length≤32) (by have:=of_decide_eq_true d; omega)]; rfl
 ·refine ⟨?_⟩
  rw [key_len (by have:=of_decide_eq_false d; omega)]
 ·refine ⟨?_⟩
  have:s = []:=by
   have:=of_decide_eq_false c
   exact List.length_eq_zero_iff.1 (by omega)
  subst this; rfl
theorem o125 (m:Int):SpecOk PQ (GQ m) 125 s125:=spec_of (X:=X24) (m:=[]) mixedQ tbl_nil itbl_nil fun args r h=>by
 unfold s125 at h
 split at h
 case h_2=>cases h
 split at h
 case isFalse=>cases h
 rename_i hs
 injection h with h; subst h
 exact ⟨_,p125 m _ hs⟩
theorem p138 (m:Int) (s:List UInt8):PureOk PQ (GQ m) X24 (tbl []) (itbl []) (a138 s) [] 138 [.agg [.int .i64 5,.int .i64 0,.str s]] (.int .i64 (keyErr s),[]):=by
 constructor
 rw [w138]; unfold w138c1 w138c3 w138c8 w138c9 w138c11 w138c5 w138c6 w138c12 w138c4 w138c10 w138c13 w138c2 w138c7 I6
 simp only [valsAre_iff,stIs_iff,Bool.false_eq_true,Bool.true_eq_false,false_implies,forall_const,true_and,and_true,exists_const]
 refine ⟨⟨fun h=>⟨by rw [keyErr,if_pos (by have:=of_decide_eq_true h; omega)]⟩,fun h=>by have:=of_decide_eq_false h; omega⟩,fun hl=>⟨⟨fun h=>⟨?_⟩,fun h=>⟨hl,fun e=>by subst e; cases h⟩⟩,fun hh=>⟨⟨0,⟨by rw [Int.natCast_zero],by omega,by rw [List.take_zero]; rfl⟩⟩,fun i hi=>⟨fun lt=>?_,fun ge=>⟨?_⟩⟩⟩⟩⟩
 ·have:s = []:=eq_of_beq h
  subst this; rfl
 ·have lt:=of_decide_eq_true lt
  have hil:i < s.length:=by omega
  have hg:s[(i:Int).toNat]? = some s[i]:=by rw [Int.toNat_natCast]; exact List.getElem?_eq_getElem hil
  have no:keyC s[i] = false→RetIs (AV.int .i64 3) [] (AV.int .i64 (keyErr s),[]):=fun h=>⟨by
   unfold keyErr
   rw [if_neg (by omega),if_neg hh.2,all_notQ hil h]; rfl⟩
  refine ⟨by omega,_,hg,fun c1=>no (keyC_bad (.inl c1)),fun c1=>⟨fun c2=>no (keyC_bad (.inr (.inl c2))),fun c2=>⟨fun c3=>no (keyC_bad (.inr (.inr (.inl c3)))),fun c3=>⟨fun c4=>no (keyC_bad (.inr (.inr (.inr c4)))),fun c4=>?_⟩⟩⟩⟩
  exact ⟨i + 1,by rw [wrapI (by omega)],⟨hil,all_succQ hil hi.2 (keyC_good c1 c2 c3 c4)⟩,by omega⟩
 ·have ge:=of_decide_eq_false ge
  unfold keyErr
  rw [if_neg (by omega),if_neg hh.2,all_take (by omega) hi.2]; rfl
theorem o138 (m:Int):SpecOk PQ (GQ m) 138 s138:=spec_of (X:=X24) (m:=[]) mixedQ tbl_nil itbl_nil fun args r h=>by
 unfold s138 at h
 split at h
 case h_2=>cases h
 injection h with h; subst h
 exact ⟨_,p138 m _⟩
theorem keyErr_ok {s:List UInt8} (h:s ≠ []):(keyErr s == 0) = keyB s:=by
 unfold keyErr keyB
 by_cases h1:32 < s.length
 ·rw [if_pos h1,decide_eq_false (p:=s.length≤32) (by omega)]; simp
 ·rw [if_neg h1,if_neg h,decide_eq_true (p:=s.length≤32) (by omega),decide_eq_true h]
  cases s.all keyC <;> rfl
theorem p94 (m:Int) (s:List UInt8):PureOk PQ (GQ m) X24 (tbl [(138,s138)]) (itbl []) nAn [] 94 [.str s] (.bool (keyB s),[]):=by
 constructor
 rw [w94]
 refine ⟨fun h=>⟨_,⟨rfl⟩,fun c=>⟨?_⟩,fun c=>⟨?_⟩⟩,fun h=>⟨?_⟩⟩
 ·have:s ≠ []:=fun e=>by subst e; cases h
  rw [← keyErr_ok this,c]
 ·have:s ≠ []:=fun e=>by subst e; cases h
  rw [← keyErr_ok this,c]
 ·have:s = []:=by
   cases s with
   | nil=>rfl
   | cons a t=>cases h
  subst this; rfl
theorem o94 (m:Int):SpecOk PQ (GQ m) 94 s94:=spec_of (X:=X24) (m:=[]) mixedQ (tbl_cons (o138 m) tbl_nil) itbl_nil fun args r h=>by
 unfold s94 at h
 split at h
 case h_2=>cases h
 injection h with h; subst h
 exact ⟨_,p94 m _⟩
theorem p93 (m:Int) (x:Lb):PureOk PQ (GQ m) X24 (tbl [(94,s94),(90,sTick)]) (itbl []) nAn [] 93 [lbA x] (.bool (!lbOk x),[]):=by
 constructor
 show pureW _ _ _ _ _ _ _ _ [.agg [.str x.key,.int .i64 x.event,.int .i64 x.know]] _
 rw [w93]
 unfold lbOk
 refine ⟨_,⟨rfl⟩,fun c1=>⟨_,⟨rfl⟩,fun c2=>⟨_,⟨rfl⟩,fun c3=>⟨by rw [c1,c2,c3]; rfl⟩,fun c3=>⟨by rw [c1,c2,c3]; rfl⟩⟩,fun c2=>⟨by rw [c1,c2]; rfl⟩⟩,fun c1=>⟨by rw [c1]; rfl⟩⟩
theorem o93 (m:Int):SpecOk PQ (GQ m) 93 s93:=spec_of (X:=X24) (m:=[]) mixedQ (tbl_cons (o94 m) (tbl_cons (o90 m) tbl_nil)) itbl_nil fun args r h=>by
 unfold s93 at h
 split at h
 case h_2=>cases h
 injection h with h; subst h
 exact ⟨_,p93 m ⟨_,_,_⟩⟩
theorem p79 (m:Int) (x:Lb) (hs:x.key.length≤maxI):PureOk PQ (GQ m) X24 (tbl [(125,s125),(78,sTick)]) (itbl []) nAn [] 79 [lbA x] (.bool (lbOk x),[]):=by
 constructor
 show pureW _ _ _ _ _ _ _ _ [.agg [.str x.key,.int .i64 x.event,.int .i64 x.know]] _
 rw [w79]
 unfold lbOk
 have e:tbl [(125,s125),(78,sTick)] 125 [.str x.key] = some (.bool (keyB x.key),[]):=by
  show (if x.key.length≤maxI then _ else _) = _
  rw [if_pos hs]
 refine ⟨_,⟨e⟩,fun c1=>⟨_,⟨rfl⟩,fun c2=>⟨_,⟨rfl⟩,fun c3=>⟨by rw [c1,c2,c3]; rfl⟩,fun c3=>⟨by rw [c1,c2,c3]; rfl⟩⟩,fun c2=>⟨by rw [c1,c2]; rfl⟩⟩,fun c1=>⟨by rw [c1]; rfl⟩⟩
theorem o79 (m:Int):SpecOk PQ (GQ m) 79 s79:=spec_of (X:=X24) (m:=[]) mixedQ (tbl_cons (o125 m) (tbl_cons (o78 m) tbl_nil)) itbl_nil fun args r h=>by
 unfold s79 at h
 split at h
 case h_2=>cases h
 split at h
 case isFalse=>cases h
 rename_i hs
 injection h with h; subst h
 exact ⟨_,p79 m ⟨_,_,_⟩ hs⟩
theorem contains_succ {l:List (List UInt8)} {x:List UInt8} {i:Nat} (h:i < l.length):(l.take (i + 1)).contains x = ((l.take i).contains x || x == l[i]):=by
 rw [List.take_succ_eq_append_getElem h,List.contains_eq_any_beq,List.any_append,List.contains_eq_any_beq]
 simp
theorem contains_of {l:List (List UInt8)} {x:List UInt8} {i:Nat} (h:i < l.length) (he:(l[i] == x) = true):l.contains x = true:=by
 have:=eq_of_beq he
 subst this
 simp
theorem beq_flip {a b:List UInt8} (h:(a == b) = false):(b == a) = false:=by
 rw [beq_eq_false_iff_ne] at h ⊢
 exact fun e=>h e.symm
theorem p20 (m:Int) (l:List (List UInt8)) (x:List UInt8) (hl:l.length≤maxI):PureOk PQ (GQ m) X24 (tbl []) (itbl []) (aIn l x) [] 20 [.sl 1 (strsL l) .no,.str x] (.bool (l.contains x),[]):=by
 constructor
 rw [w20]; unfold I6
 unfold maxI at hl
 have hn:(strsL l).length = l.length:=List.length_map _
 refine ⟨⟨0,⟨rfl⟩,⟨rfl⟩,⟨Nat.zero_le _,rfl⟩,trivial⟩,fun i hi=>⟨fun lt=>?_,fun ge=>⟨?_⟩⟩⟩
 ·have lt:=of_decide_eq_true lt
  rw [hn] at lt
  have hil:i < l.length:=by omega
  refine ⟨⟨by omega,by omega⟩,_,by rw [Int.toNat_natCast]; exact take_str hil,fun c=>⟨by rw [contains_of hil c]⟩,fun c=>⟨i + 1,⟨by rw [wrapI (by omega)]⟩,⟨rfl⟩,⟨hil,by rw [contains_succ hil,hi.2,beq_flip c]; rfl⟩,by omega⟩⟩
 ·have ge:=of_decide_eq_false ge
  rw [hn] at ge
  have:=hi.2
  rw [List.take_of_length_le (by omega)] at this
  rw [this]
theorem idx_at {l:List (List UInt8)} {x:List UInt8} {i:Nat} (h:i < l.length) (h1:∀ y ∈ l.take i,(x == y) = false) (he:(x == l[i]) = true):idxS l x = i:=by
 have hx:=eq_of_beq he
 have hm:x ∈ l:=by rw [hx]; exact List.getElem_mem h
 unfold idxS
 rw [if_pos hm]
 have:l = l.take i ++ l[i] :: l.drop (i + 1):=by rw [← List.drop_eq_getElem_cons h,List.take_append_drop]
 have e:(l.takeWhile fun y=>!(x == y)) = l.take i:=by
  conv=>lhs; rw [this]
  rw [List.takeWhile_append_of_pos (fun a ha=>by rw [h1 a ha]; rfl),List.takeWhile_cons]
  simp [he]
 rw [e,List.length_take,Nat.min_eq_left (by omega)]
theorem idx_none {l:List (List UInt8)} {x:List UInt8} (h1:∀ y ∈ l,(x == y) = false):idxS l x = -1:=by
 unfold idxS
 rw [if_neg]
 intro hm
 have:=h1 x hm
 simp at this
theorem p136 (m:Int) (l:List (List UInt8)) (x:List UInt8) (hl:l.length≤maxI):PureOk PQ (GQ m) X24 (tbl []) (itbl []) (a136 l x) [] 136 [.sl 1 (strsL l) .no,.str x] (.int .i64 (idxS l x),[]):=by
 constructor
 rw [w136]; unfold I6
 unfold maxI at hl
 have hn:(strsL l).length = l.length:=List.length_map _
 refine ⟨⟨0,⟨by rw [hn]; rfl⟩,⟨rfl⟩,⟨Nat.zero_le _,fun y hy=>by simp at hy⟩,trivial⟩,fun i hi=>⟨fun lt=>?_,fun ge=>⟨?_⟩⟩⟩
 ·have lt:=of_decide_eq_true lt
  have hil:i < l.length:=by omega
  refine ⟨⟨by omega,by omega⟩,_,by rw [Int.toNat_natCast]; exact take_str hil,fun c=>⟨by rw [idx_at hil hi.2 c]⟩,fun c=>⟨i + 1,⟨by rw [wrapI (by omega)]⟩,⟨rfl⟩,⟨hil,fun y hy=>?_⟩,by omega⟩⟩
  rw [List.take_succ_eq_append_getElem hil] at hy
  rcases List.mem_append.1 hy with hy | hy
  ·exact hi.2 y hy
  ·simp at hy; subst hy; exact c
 ·have ge:=of_decide_eq_false ge
  have:=hi.2
  rw [List.take_of_length_le (by omega)] at this
  rw [idx_none this]
theorem idx_ge {l:List (List UInt8)} {x:List UInt8}:decide (idxS l x ≥ 0) = l.contains x:=by
 unfold idxS
 by_cases h:x ∈ l
 ·rw [if_pos h]; simp [h]
 ·rw [if_neg h]; simp [h]
theorem run136 {l:List (List UInt8)} {x:List UInt8} (hl:l.length≤maxI):s136 [.sl 1 (strsL l) .no,.str x] = some (.int .i64 (idxS l x),[]):=by
 simp only [s136,unL_map unS_ok]
 rw [if_pos ⟨trivial,hl⟩]
theorem p91 (m:Int) (l:List (List UInt8)) (x:List UInt8) (hl:l.length≤maxI):PureOk PQ (GQ m) X24 (tbl [(136,s136)]) (itbl []) nAn [] 91 [.sl 1 (strsL l) .no,.str x] (.bool (l.contains x),[]):=by
 constructor
 rw [w91]
 exact ⟨_,⟨run136 hl⟩,fun c=>⟨by rw [← idx_ge,c]⟩,fun c=>⟨by rw [← idx_ge,c]⟩⟩
theorem o20 (m:Int):SpecOk PQ (GQ m) 20 sIn:=spec_of (X:=X24) (m:=[]) mixedQ tbl_nil itbl_nil fun args r h=>by
 unfold sIn at h
 split at h
 case h_2=>cases h
 split at h
 case h_2=>cases h
 rename_i l hu
 split at h
 case isFalse=>cases h
 rename_i hs
 injection h with h; subst h
 rw [unL_inv unS_inv hu,hs.1]
 exact ⟨_,p20 m _ _ hs.2⟩
theorem o136 (m:Int):SpecOk PQ (GQ m) 136 s136:=spec_of (X:=X24) (m:=[]) mixedQ tbl_nil itbl_nil fun args r h=>by
 unfold s136 at h
 split at h
 case h_2=>cases h
 split at h
 case h_2=>cases h
 rename_i l hu
 split at h
 case isFalse=>cases h
 rename_i hs
 injection h with h; subst h
 rw [unL_inv unS_inv hu,hs.1]
 exact ⟨_,p136 m _ _ hs.2⟩
theorem o91 (m:Int):SpecOk PQ (GQ m) 91 sIn:=spec_of (X:=X24) (m:=[]) mixedQ (tbl_cons (o136 m) tbl_nil) itbl_nil fun args r h=>by
 unfold sIn at h
 split at h
 case h_2=>cases h
 split at h
 case h_2=>cases h
 rename_i l hu
 split at h
 case isFalse=>cases h
 rename_i hs
 injection h with h; subst h
 rw [unL_inv unS_inv hu,hs.1]
 exact ⟨_,p91 m _ _ hs.2⟩
theorem lb_eta (x:Lb):(⟨x.key,x.event,x.know⟩:Lb) = x:=rfl
theorem idxP_at {l:List Lb} {i:Nat} (h:i < l.length) (h1:(l.take i).all lbOk = true) (he:lbOk l[i] = false):idxP l = i:=by
 unfold idxP
 rw [all_notQ h he,if_neg (by simp)]
 have:l = l.take i ++ l[i] :: l.drop (i + 1):=by rw [← List.drop_eq_getElem_cons h,List.take_append_drop]
 have e:l.takeWhile lbOk = l.take i:=by
  conv=>lhs; rw [this]
  rw [List.takeWhile_append_of_pos (fun a ha=>List.all_eq_true.1 h1 a ha),List.takeWhile_cons]
  simp [he]
 rw [e,List.length_take,Nat.min_eq_left (by omega)]
theorem p137 (m:Int) (l:List Lb) (hl:l.length≤maxI):PureOk PQ (GQ m) X24 (tbl [(93,s93)]) (itbl []) (a137 l) [] 137 [.sl 3 (lbsL l) .no,.fn 93 []] (.int .i64 (idxP l),[]):=by
 constructor
 rw [w137]; unfold I6
 unfold maxI at hl
 have hn:(lbsL l).length = l.length:=List.length_map _
 refine ⟨⟨0,⟨by rw [hn]; rfl⟩,⟨rfl⟩,⟨Nat.zero_le _,rfl⟩,trivial⟩,fun i hi=>⟨fun lt=>?_,fun ge=>⟨?_⟩⟩⟩
 ·have lt:=of_decide_eq_true lt
  have hil:i < l.length:=by omega
  refine ⟨⟨by omega,by omega⟩,_,_,_,by rw [Int.toNat_natCast]; exact take_lb hil,_,⟨rfl⟩,fun c=>⟨?_⟩,fun c=>⟨i + 1,⟨by rw [wrapI (by omega)]⟩,⟨rfl⟩,⟨hil,all_succQ hil hi.2 ?_⟩,by omega⟩⟩
  ·rw [lb_eta] at c
   rw [idxP_at hil hi.2 (by simpa using c)]
  ·rw [lb_eta] at c
   simpa using c
 ·have ge:=of_decide_eq_false ge
  unfold idxP
  rw [all_take (by omega) hi.2,if_pos rfl]
theorem o137 (m:Int):SpecOk PQ (GQ m) 137 s137:=spec_of (X:=X24) (m:=[]) mixedQ (tbl_cons (o93 m) tbl_nil) itbl_nil fun args r h=>by
 unfold s137 at h
 split at h
 case h_2=>cases h
 split at h
 case h_2=>cases h
 rename_i l hu
 split at h
 case isFalse=>cases h
 rename_i hs
 injection h with h; subst h
 rw [unL_inv unLb_inv hu,hs.1]
 exact ⟨_,p137 m _ hs.2⟩
theorem idxP_ge {l:List Lb}:decide (idxP l ≥ 0) = !l.all lbOk:=by
 unfold idxP
 cases h:l.all lbOk
 ·rw [if_neg (by simp)]; simp
 ·rw [if_pos rfl]; rfl
theorem run137 {l:List Lb} (hl:l.length≤maxI):s137 [.sl 3 (lbsL l) .no,.fn 93 []] = some (.int .i64 (idxP l),[]):=by
 simp only [s137,unL_map unLb_ok]
 rw [if_pos ⟨trivial,hl⟩]
theorem p92 (m:Int) (l:List Lb) (hl:l.length≤maxI):PureOk PQ (GQ m) X24 (tbl [(137,s137)]) (itbl []) nAn [] 92 [.sl 3 (lbsL l) .no,.fn 93 []] (.bool (!l.all lbOk),[]):=by
 constructor
 rw [w92]
 exact ⟨_,⟨run137 hl⟩,fun c=>⟨by rw [← idxP_ge,c]⟩,fun c=>⟨by rw [← idxP_ge,c]⟩⟩
theorem o92 (m:Int):SpecOk PQ (GQ m) 92 s92:=spec_of (X:=X24) (m:=[]) mixedQ (tbl_cons (o137 m) tbl_nil) itbl_nil fun args r h=>by
 unfold s92 at h
 split at h
 case h_2=>cases h
 split at h
 case h_2=>cases h
 rename_i l hu
 split at h
 case isFalse=>cases h
 rename_i hs
 injection h with h; subst h
 rw [unL_inv unLb_inv hu,hs.1]
 exact ⟨_,p92 m _ hs.2⟩
/-! names, unbounded -/
theorem o77u (m:Int):SpecOk PQ (GQ m) 77 s40u:=spec_of (X:=XW) (m:=[]) mixedQ (tbl_cons (o124 m) (tbl_cons (o123 m) tbl_nil)) itbl_nil fun args r h=>by
 unfold s40u at h
 split at h
 case h_2=>cases h
 injection h with h; subst h
 exact ⟨nAn,p77 m _⟩
theorem p40u (m:Int) (s:List UInt8) (hs:¬ s.length≤2000000):PureOk PQ (GQ m) XW (tbl [(88,s88)]) (itbl []) (a40 s) [] 40 [.str s] (.bool (nameR s),[]):=by
 constructor
 rw [w40]; unfold w40c1 w40c2 w40c3 w40c5 w40c4
 simp only [retIs_iff,Prod.mk.injEq,AV.bool.injEq,and_true,decide_eq_true_eq,decide_eq_false_iff_not,beq_iff_eq,beq_eq_false_iff_ne,ne_eq]
 have hn:nameR s = false:=by
  unfold nameR
  rw [decide_eq_false (p:=s.length≤24) (by omega)]; simp
 exact ⟨fun h=>by rw [hn],fun hne=>⟨fun h=>by rw [hn],fun hl=>absurd hl (by omega)⟩⟩
theorem o40u (m:Int):SpecOk PQ (GQ m) 40 s40u:=spec_of (X:=XW) (m:=[]) mixedQ (tbl_cons (o88 m) tbl_nil) itbl_nil fun args r h=>by
 unfold s40u at h
 split at h
 case h_2=>cases h
 injection h with h; subst h
 by_cases hs:(by assumption:List UInt8).length≤2000000
 ·exact ⟨_,p40 m _ hs⟩
 ·exact ⟨_,p40u m _ hs⟩
theorem hd1 {r:Rq} (h:nameR r.entity = false):formB r = false:=by unfold formB headOk; rw [h]; rfl
theorem hd2 {r:Rq} (h:decide ((r.feats.length:Int) < 1) = true):formB r = false:=by
 unfold formB headOk; rw [decide_eq_false (p:=1≤r.feats.length) (by have:=of_decide_eq_true h; omega)]; simp
theorem hd3 {r:Rq} (h:decide ((r.feats.length:Int) > 8) = true):formB r = false:=by
 unfold formB headOk; rw [decide_eq_false (p:=r.feats.length≤8) (by have:=of_decide_eq_true h; omega)]; simp
theorem hd4 {r:Rq} (h:decide ((r.labels.length:Int) > 256) = true):formB r = false:=by
 unfold formB headOk; rw [decide_eq_false (p:=r.labels.length≤256) (by have:=of_decide_eq_true h; omega)]; simp
theorem hd5 {r:Rq} (h:tickB r.seed = false):formB r = false:=by unfold formB headOk; rw [h]; simp
theorem hd6 {r:Rq} (h:decide (r.permille < 0) = true):formB r = false:=by
 unfold formB headOk; rw [decide_eq_false (p:=0≤r.permille) (by have:=of_decide_eq_true h; omega)]; simp
theorem hd7 {r:Rq} (h:decide (r.permille > 1000) = true):formB r = false:=by
 unfold formB headOk; rw [decide_eq_false (p:=r.permille≤1000) (by have:=of_decide_eq_true h; omega)]; simp
theorem hdOk {r:Rq} (h1:nameR r.entity = true) (h2:decide ((r.feats.length:Int) < 1) = false) (h3:decide ((r.feats.length:Int) > 8) = false) (h4:decide ((r.labels.length:Int) > 256) = false) (h5:tickB r.seed = true) (h6:decide (r.permille < 0) = false) (h7:decide (r.permille > 1000) = false):headOk r = true:=by
 unfold headOk
 have:=of_decide_eq_false h2
 have:=of_decide_eq_false h3
 have:=of_decide_eq_false h4
 have:=of_decide_eq_false h6
 have:=of_decide_eq_false h7
 rw [h1,h5,decide_eq_true (p:=1≤r.feats.length) (by omega),decide_eq_true (p:=r.feats.length≤8) (by omega),decide_eq_true (p:=r.labels.length≤256) (by omega),decide_eq_true (p:=0≤r.permille) (by omega),decide_eq_true (p:=r.permille≤1000) (by omega)]
 rfl
theorem form_feats {r:Rq} (h:featsOk [] r.feats = false):formB r = false:=by unfold formB; rw [h]; simp
theorem form_labels {r:Rq} (h:r.labels.all lbOk = false):formB r = false:=by unfold formB; rw [h]; simp
theorem feats_step {l:List (List UInt8)} {i:Nat} (h:i < l.length):featsOk (l.take i) (l.drop i) = (nameR l[i] && !(l.take i).contains l[i] && featsOk (l.take (i + 1)) (l.drop (i + 1))):=by
 rw [List.drop_eq_getElem_cons h,featsOk,List.take_succ_eq_append_getElem h]
theorem feats_end {l:List (List UInt8)} {i:Nat} (h:¬ i < l.length):featsOk (l.take i) (l.drop i) = true:=by
 rw [List.drop_eq_nil_of_le (by omega)]; rfl
theorem runIn {l:List (List UInt8)} {x:List UInt8} {i:Nat} (hl:l.length≤maxI):sIn [.sl 1 (List.drop 0 (List.take (i:Int).toNat (strsL l))) .no,.str x] = some (.bool ((l.take i).contains x),[]):=by
 rw [Int.toNat_natCast,List.drop_zero,← List.map_take]
 simp only [sIn,unL_map unS_ok]
 rw [if_pos ⟨trivial,by rw [List.length_take]; omega⟩]
theorem run92 {l:List Lb} (hl:l.length≤maxI):s92 [.sl 3 (lbsL l) .no,.fn 93 []] = some (.bool (!l.all lbOk),[]):=by
 simp only [s92,unL_map unLb_ok]
 rw [if_pos ⟨trivial,hl⟩]
theorem p46 (m:Int) (x:Rq):PureOk PQ (GQ m) X24 (tbl t46) (itbl []) (a46 x) [] 46 [rqA x] (.bool (formB x),[]):=by
 constructor
 rw [w46]; unfold w46c2 w46c1 I6
 have hn:(strsL x.feats).length = x.feats.length:=List.length_map _
 have hm:(lbsL x.labels).length = x.labels.length:=List.length_map _
 simp only [hn,hm]
 refine ⟨_,⟨rfl⟩,fun c1=>⟨fun c2=>⟨by rw [hd2 c2]⟩,fun c2=>⟨fun c3=>⟨by rw [hd3 c3]⟩,fun c3=>⟨fun c4=>⟨by rw [hd4 c4]⟩,fun c4=>⟨_,⟨rfl⟩,fun c5=>⟨fun c6=>⟨by rw [hd6 c6]⟩,fun c6=>⟨fun c7=>⟨by rw [hd7 c7]⟩,fun c7=>?_⟩⟩,fun c5=>⟨by rw [hd5 c5]⟩⟩⟩⟩⟩,fun c1=>⟨by rw [hd1 c1]⟩⟩
 have hd:=hdOk c1 c2 c3 c4 c5 c6 c7
 have l8:=of_decide_eq_false c3
 have l256:=of_decide_eq_false c4
 have big:maxI = 9223372036854775807:=rfl
 refine ⟨⟨0,⟨rfl⟩,⟨rfl⟩,⟨Nat.zero_le _,rfl⟩,trivial⟩,fun i hi=>⟨fun lt=>?_,fun ge=>?_⟩⟩
 ·have lt:=of_decide_eq_true lt
  have hil:i < x.feats.length:=by omega
  have hs:=hi.2.trans (feats_step hil)
  refine ⟨⟨by omega,by omega⟩,_,by rw [Int.toNat_natCast]; exact take_str hil,_,⟨rfl⟩,fun b1=>⟨by omega,⟨by omega,by omega⟩,.inl trivial,_,⟨runIn (by omega)⟩,fun b2=>⟨?_⟩,fun b2=>⟨i + 1,⟨by rw [wrapI (by omega)]⟩,⟨rfl⟩,⟨hil,?_⟩,by omega⟩⟩,fun b1=>⟨?_⟩⟩
  ·rw [form_feats (by rw [hs,b2]; simp)]
  ·rw [hs,b1,b2]; rfl
  ·rw [form_feats (by rw [hs,b1]; rfl)]
 ·have ge:=of_decide_eq_false ge
  have hf:=hi.2.trans (feats_end (by omega))
  refine ⟨_,⟨run92 (by omega)⟩,fun b=>⟨?_⟩,fun b=>⟨?_⟩⟩
  ·rw [form_labels (by simpa using b)]
  ·have b:x.labels.all lbOk = true:=by simpa using b
   unfold formB; rw [hd,hf,b]; rfl
theorem o46 (m:Int):SpecOk PQ (GQ m) 46 s46:=spec_of (X:=X24) (m:=[]) mixedQ (tbl_cons (o40u m) (tbl_cons (o90 m) (tbl_cons (o91 m) (tbl_cons (o92 m) tbl_nil)))) itbl_nil fun args r h=>by
 unfold s46 at h
 split at h
 case h_2=>cases h
 split at h
 case h_2=>cases h
 rename_i hu
 injection h with h; subst h
 rw [unRqN_inv _ _ hu]
 exact ⟨_,p46 m _⟩
theorem p33 (m:Int) (x:Rq) (hk:keysOk x.labels = true):PureOk PQ (GQ m) X24 (tbl t33q) (itbl []) (a33 x) [] 33 [rqA x] (.bool (formB x),[]):=by
 constructor
 rw [w33]; unfold w33c2 w33c1 I6
 have hn:(strsL x.feats).length = x.feats.length:=List.length_map _
 have hm:(lbsL x.labels).length = x.labels.length:=List.length_map _
 simp only [hn,hm]
 refine ⟨_,⟨rfl⟩,fun c1=>⟨fun c2=>⟨by rw [hd2 c2]⟩,fun c2=>⟨fun c3=>⟨by rw [hd3 c3]⟩,fun c3=>⟨fun c4=>⟨by rw [hd4 c4]⟩,fun c4=>⟨_,⟨rfl⟩,fun c5=>⟨fun c6=>⟨by rw [hd6 c6]⟩,fun c6=>⟨fun c7=>⟨by rw [hd7 c7]⟩,fun c7=>?_⟩⟩,fun c5=>⟨by rw [hd5 c5]⟩⟩⟩⟩⟩,fun c1=>⟨by rw [hd1 c1]⟩⟩
 have hd:=hdOk c1 c2 c3 c4 c5 c6 c7
 have l8:=of_decide_eq_false c3
 have l256:=of_decide_eq_false c4
 have big:maxI = 9223372036854775807:=rfl
 refine ⟨⟨0,⟨rfl⟩,⟨rfl⟩,⟨Nat.zero_le _,rfl⟩,trivial⟩,fun i hi=>⟨fun lt=>?_,fun ge=>?_⟩⟩
 ·have lt:=of_decide_eq_true lt
  have hil:i < x.feats.length:=by omega
  have hs:=hi.2.trans (feats_step hil)
  refine ⟨⟨by omega,by omega⟩,_,by rw [Int.toNat_natCast]; exact take_str hil,_,⟨rfl⟩,fun b1=>⟨by omega,⟨by omega,by omega⟩,.inl trivial,⟨by omega,by omega⟩,_,by rw [Int.toNat_natCast]; exact take_str hil,_,⟨runIn (by omega)⟩,fun b2=>⟨?_⟩,fun b2=>⟨i + 1,⟨by rw [wrapI (by omega)]⟩,⟨rfl⟩,⟨hil,?_⟩,by omega⟩⟩,fun b1=>⟨?_⟩⟩
  ·rw [form_feats (by rw [hs,b2]; simp)]
  ·rw [hs,b1,b2]; rfl
  ·rw [form_feats (by rw [hs,b1]; rfl)]
 ·have ge:=of_decide_eq_false ge
  have hf:=hi.2.trans (feats_end (by omega))
  refine ⟨⟨0,⟨rfl⟩,⟨rfl⟩,⟨Nat.zero_le _,hf,rfl⟩,trivial⟩,fun j hj=>⟨fun lt=>?_,fun ge=>⟨?_⟩⟩⟩
  ·have lt:=of_decide_eq_true lt
   have hjl:j < x.labels.length:=by omega
   have hkk:x.labels[j].key.length≤maxI:=of_decide_eq_true (List.all_eq_true.1 hk _ (List.getElem_mem hjl))
   have e:s79 [.agg [.str x.labels[j].key,.int .i64 x.labels[j].event,.int .i64 x.labels[j].know]] = some (.bool (lbOk x.labels[j]),[]):=by
    unfold s79
    simp only
    rw [if_pos hkk]
   refine ⟨⟨by omega,by omega⟩,_,_,_,by rw [Int.toNat_natCast]; exact take_lb hjl,_,⟨e⟩,fun b=>⟨j + 1,⟨by rw [wrapI (by omega)]⟩,⟨rfl⟩,⟨hjl,hj.2.1,all_succQ hjl hj.2.2 b⟩,by omega⟩,fun b=>⟨?_⟩⟩
   rw [form_labels (all_notQ hjl b)]
  ·have ge:=of_decide_eq_false ge
   unfold formB; rw [hd,hf,all_take (by omega) hj.2.2]; rfl
theorem o33 (m:Int):SpecOk PQ (GQ m) 33 s33:=spec_of (X:=X24) (m:=[]) mixedQ (tbl_cons (o77u m) (tbl_cons (o78 m) (tbl_cons (o20 m) (tbl_cons (o79 m) tbl_nil)))) itbl_nil fun args r h=>by
 unfold s33 at h
 split at h
 case h_2=>cases h
 split at h
 case h_2=>cases h
 rename_i hu
 split at h
 case isFalse=>cases h
 rename_i hk
 injection h with h; subst h
 rw [unRqN_inv _ _ hu]
 exact ⟨_,p33 m _ hk⟩
end Go.Abs
namespace Go.Abs
open Go.Proofs Go.RowKit
def valL (s:List UInt8):Nat:=s.foldl (fun n c=>10 * n + (c.toNat - 48)) 0
def intB (l:List UInt8):Bool:=decide (l ≠ []) && l.all digitB
def valF (n:Nat) (l:List UInt8):Nat:=l.foldl (fun n c=>10 * n + (c.toNat - 48)) n
theorem valL_eq (l:List UInt8):valL l = valF 0 l:=rfl
theorem valF_ge:∀ (l:List UInt8) (n:Nat),n≤valF n l
 | [],n=>Nat.le_refl _
 | c :: l,n=>by
  have:=valF_ge l (10 * n + (c.toNat - 48))
  simp only [valF,List.foldl_cons] at this ⊢
  omega
theorem digitB_iff {c:UInt8}:digitB c = true ↔ 48≤c.toNat∧c.toNat≤57:=by simp [digitB]
theorem parse_digits:∀ (l:List UInt8) (n:Nat),l.all digitB = true→n < 18446744073709551616 →
  Lib.parseUint10 n l = if valF n l < 18446744073709551616 then .ok (valF n l) else .range
 | [],n,_,hn=>by simp [Lib.parseUint10,valF,hn]
 | c :: l,n,hd,hn=>by
  simp only [List.all_cons,Bool.and_eq_true,digitB_iff] at hd
  have hv:valF n (c :: l) = valF (10 * n + (c.toNat - 48)) l:=rfl
  have hge:=valF_ge l (10 * n + (c.toNat - 48))
  simp only [Lib.parseUint10]
  rw [if_pos hd.1,hv]
  by_cases h1:1844674407370955162≤n
  ·rw [if_pos h1,if_neg (by omega)]
  ·rw [if_neg h1]
   by_cases h2:18446744073709551616≤n * 10 + (c.toNat - 48)
   ·rw [if_pos h2,if_neg (by omega)]
   ·rw [if_neg h2,Nat.mul_comm n 10]
    exact parse_digits l _ hd.2 (by omega)
theorem atoi_digits {l:List UInt8} (h:intB l = true):Lib.atoiAll l = if valL l≤9223372036854775807 then .ok (valL l:Int) else .range:=by
 simp only [intB,Bool.and_eq_true,decide_eq_true_eq] at h
 obtain ⟨h1,h2⟩:=h
 cases l with
 | nil=>exact absurd rfl h1
 | cons c r =>
  have hc:48≤c.toNat∧c.toNat≤57:=by
   simp only [List.all_cons,Bool.and_eq_true,digitB_iff] at h2; exact h2.1
  have hp:=parse_digits (c :: r) 0 h2 (by omega)
  simp only [Lib.atoiAll,Lib.parseMag]
  rw [if_neg (show ¬ (c.toNat = 43∨c.toNat = 45) by omega),if_neg (by simp),hp,valL_eq]
  by_cases h3:valF 0 (c :: r) < 18446744073709551616
  ·rw [if_pos h3]
   simp only
   by_cases h4:valF 0 (c :: r)≤9223372036854775807
   ·rw [if_pos h4,if_neg (by omega),if_neg (by omega),if_neg (by omega)]
   ·rw [if_neg h4,if_pos (by omega)]
  ·rw [if_neg h3,if_neg (by omega)]
section
variable {P : Program} {G : Glob} {E : Env} {w w' : World}
theorem glob_ifc {g:Nat} (hG:GlobOk G E w) (h:G g = some .ifc):∃ t x,w.cell? ⟨g,0,none⟩ = some (.iface t x):=by
 have:=(hG g _ h).2.1
 generalize hv:Value.pointer (some ⟨g,0,none⟩) = v at this
 cases this with | elt _ _ _ _ b off u hcl hA hr h1 =>
 injection hv with hv
 injection hv with hv
 injection hv with h2 h3
 subst h2
 obtain ⟨_,h4⟩:=hA 0 _ 0 _ rfl rfl
 obtain ⟨t,x,h5⟩:=rep_ifc (hr 0 _ 0 _ rfl rfl)
 refine ⟨t,x,?_⟩
 rw [← h5,← h4]
 congr 2
theorem rep_tup2 {a b:AV} {u v:Value} (h1:Rep E w a u) (h2:Rep E w b v):Rep E w (.tup [a,b]) (.tuple #[u,v]):=by
 refine .tup _ _ rfl fun i c x hc hx=>?_
 match i,hc,hx with
 | 0,hc,hx=>simp at hc hx; subst hc; subst hx; exact h1
 | 1,hc,hx=>simp at hc hx; subst hc; subst hx; exact h2
 | i + 2,hc,hx=>simp at hc
theorem vs_one' {vs:Array Value} (h:vs.size = 1):∃ a,vs = #[a]:=vs_one h
end
section
variable {P : Program} {G : Glob} {E : Env} {w w' : World}
theorem glob_tab {g:Nat} {k:IntKind} {zs:List Int} (hG:GlobOk G E w) (h:G g = some (.agg (zs.map fun z=>.int k z))) (hz:zs ≠ []):w.heap[g]?.bind (fun o=>match o with | .cells cs _ _=>some cs | _=>none) = some (zs.map fun z=>Value.int k z).toArray:=by
 obtain ⟨_,h1,_,h2⟩:=hG g _ h
 have hcell:∀ j (hj:j < zs.length),w.cell? ⟨g,j,none⟩ = some (.int k zs[j]):=by
  generalize hv:Value.pointer (some ⟨g,0,none⟩) = v at h1
  cases h1 with | elt _ _ _ _ b off u hcl hA hr h1 =>
  injection hv with hv
  injection hv with hv
  injection hv with h3 h4
  subst h3
  intro j hj
  have hc:(AV.agg (zs.map fun z=>.int k z)).cells[j]? = some (.int k zs[j]):=by simp [AV.cells,hj]
  obtain ⟨_,h5⟩:=hA 0 _ j _ rfl hc
  have h6:=rep_int (hr 0 _ j _ rfl hc)
  rw [← h6,← h5]
  congr 2
  omega
 have h0:=hcell 0 (List.length_pos_iff.2 hz)
 unfold World.cell? at hcell h0 h2
 simp only at hcell h0 h2
 cases ho:w.heap[g]? with
 | none=>rw [ho] at h0; cases h0
 | some o =>
  rw [ho] at h0
  rw [ho] at hcell h2
  cases o with
  | cells cs e f =>
   simp only [Option.isSome_none,Bool.false_eq_true,if_false] at hcell h2
   simp only [Option.bind_some,Option.some.injEq]
   have hn:(AV.agg (zs.map fun z=>.int k z)).cells.length = zs.length:=by simp [AV.cells]
   rw [hn] at h2
   have hsz:cs.size≤zs.length:=by
    apply Classical.byContradiction
    intro hlt
    rw [Array.getElem?_eq_getElem (by omega)] at h2
    cases h2
   apply Array.ext_getElem?
   intro i
   by_cases hi:i < zs.length
   ·rw [hcell i hi]; simp [hi]
   ·have e1:cs[i]? = none:=Array.getElem?_eq_none (by omega)
    rw [e1,List.getElem?_toArray,List.getElem?_map,List.getElem?_eq_none (by omega)]; rfl
  | _=>simp at h0
end
def s89:Spec:=fun args=>match args with
 | [.str l]=>if l.length≤1000000∧intB l = true then some (if valL l≤9223372036854775807 then (.tup [.int .i64 (valL l),.lit .nilIface],[]) else (.tup [.int .i64 9223372036854775807,.ifc],[])) else none
 | _=>none
theorem o89 (m:Int):SpecOk PQ (GQ m) 89 s89:=by
 intro g args r lv h E w vs hI hG hn' hv hcl
 simp only at h
 split at h
 case isFalse=>cases h
 case isTrue e =>
 subst e
 unfold s89 at h
 split at h
 case h_2=>cases h
 case h_1 l =>
 split at h
 case isFalse=>cases h
 case isTrue hl =>
 obtain ⟨hl,hi⟩:=hl
 obtain ⟨a,rfl⟩:=vs_one' hn'
 obtain ⟨s,rfl,hs⟩:=rep_str (hv 0 _ _ rfl rfl)
 have hsz:s.size = l.length:=by rw [size_data,hs]
 have ha:=atoi_digits hi
 by_cases h63:valL l≤9223372036854775807
 ·rw [if_pos h63] at h ha
  simp only [Option.some.injEq,Prod.mk.injEq] at h
  obtain ⟨rfl,rfl⟩:=h
  refine .inl ⟨goodQ (by kernel_rfl),(Tryz.strconv_Atoi_ok s (by omega) (valL l) (by rw [hs]; exact ha) w).mono fun e w' ⟨he,hw⟩=>⟨_,he,?_⟩⟩
  have hb:Below w.heap.size w w':=by
   rcases hw with rfl | ⟨t,rfl⟩
   ·exact Below.refl _ _
   ·exact Lib.bytesWorld_below _ _ _
  exact res_below hb fun B K=>rep_tup2 (.int _ _) (.lit _ rfl)
 ·rw [if_neg h63] at h ha
  simp only [Option.some.injEq,Prod.mk.injEq] at h
  obtain ⟨rfl,rfl⟩:=h
  obtain ⟨t,x,hx⟩:=glob_ifc (g:=3) hG rfl
  refine .inl ⟨goodQ (by kernel_rfl),(Tryz.strconv_Atoi_range s (by omega) (by rw [hs]; exact ha) _ w hx (.inr ⟨t,x,rfl⟩)).mono fun e w' ⟨N,he,_,_,hb⟩=>⟨_,he,?_⟩⟩
  have hsat:Lib.atoiSat s.data.toList = 9223372036854775807:=by
   rw [hs,Lib.atoiSat,if_neg]
   cases l with
   | nil=>simp
   | cons c t =>
    simp only [intB,Bool.and_eq_true,List.all_cons,digitB_iff] at hi
    simp
    omega
  rw [hsat]
  exact res_below hb fun B K=>rep_tup2 (.int _ _) (.ifc _ _)
def s52:Spec:=fun args=>match args with
 | [.int .i64 n]=>if -9223372036854775808≤n∧n≤9223372036854775807 then some (.str (Lib.itoa n),[]) else none
 | _=>none
theorem o52 (m:Int):SpecOk PQ (GQ m) 52 s52:=by
 intro g args r lv h E w vs hI hG hn' hv hcl
 simp only at h
 split at h
 case isFalse=>cases h
 case isTrue e =>
 subst e
 unfold s52 at h
 split at h
 case h_2=>cases h
 case h_1 n =>
 split at h
 case isFalse=>cases h
 case isTrue hl =>
 simp only [Option.some.injEq,Prod.mk.injEq] at h
 obtain ⟨rfl,rfl⟩:=h
 obtain ⟨a,rfl⟩:=vs_one hn'
 obtain rfl:=rep_int (hv 0 _ _ rfl rfl)
 have htab:Lib.TabIs PQ w "internal/strconv.uint64pow10" .u64 Lib.pow10Tab:=by
  have hg:PQ.globalNamed "internal/strconv.uint64pow10" = some 4:=by kernel_rfl
  have hk:GQ m 4 = some (.agg (Lib.pow10Tab.map fun z=>.int .u64 z)):=by
   show some keptPowsA = _
   unfold keptPowsA keptPows Lib.pow10Tab
   rw [List.map_map]; rfl
  have:=glob_tab hG hk (by unfold Lib.pow10Tab; simp)
  unfold Lib.TabIs World.var?
  rw [hg]
  cases ho:w.heap[4]? with
  | none=>rw [ho] at this; cases this
  | some o=>rw [ho] at this; cases o <;> simp_all
 refine .inl ⟨goodQ (by kernel_rfl),(Tryz.strconv_Itoa n hl.1 (hl.2) w htab).mono fun e w' ⟨he,k,os,hw⟩=>⟨_,he,?_⟩⟩
 subst hw
 exact res_below (Lib.below_grow _ _ (Nat.le_refl _) _ _) fun B K=>.str _ _ rfl
section
variable {G : Glob} {N0 : Nat → Prop} {w0 : World} {I0 : Nat → Nat → Prop} {S : St} {E : Env} {w : World}
theorem bld_at {b blk:Nat} {buf:AV} (hS:SR PQ G N0 w0 I0 S E w) (hb:S.boxes[b]? = some (some (typB 107 [.opq,buf]))) (hB:E.B b = some blk) :
  ∃ p v,w.heap[blk]? = some (.cells #[p,v] 107 (0,0))∧(p = .pointer none∨p = .pointer (some ⟨blk,0,none⟩))∧Rep E w buf v∧v.oneCell' = true:=by
 obtain ⟨blk',hB',hbx⟩:=hS.box b _ hb
 obtain rfl:blk = blk':=by rw [hB] at hB'; injection hB'
 cases hbx with
 | row arr ty hr=>simp [isRow] at hr
 | iter s pos hcs=>simp at hcs
 | map t n es k e D hcs=>simp [mapC] at hcs
 | own sz es f arr ty hcs=>simp at hcs
 | dead hcs=>simp at hcs
 | typ t cs' arr hcs hh hn hcl hself hc =>
  have h1:t = 107∧cs' = [.opq,buf]:=by
   simp at hcs
   exact ⟨by omega,hcs.2.symm⟩
  obtain ⟨rfl,rfl⟩:=h1
  have hs:=hself (by kernel_rfl)
  obtain ⟨l⟩:=arr
  match l,hn with
  | [p,v],_ =>
   obtain ⟨h2,h3⟩:=hc 1 buf v rfl rfl
   refine ⟨p,v,hh,?_,h2,h3⟩
   simpa using hs
theorem not_frz {b:Nat} {cs:List AV} (hb:S.boxes[b]? = some (some (typB 107 cs))):¬ Frz S b:=by
 intro h
 rcases h.row hb with e | ⟨sz,es,e⟩
 ·cases e
 ·simp at e
theorem bld_set {b blk:Nat} {buf buf':AV} {p v p' v':Value} (hS:SR PQ G N0 w0 I0 S E w) (hb:S.boxes[b]? = some (some (typB 107 [.opq,buf]))) (hB:E.B b = some blk) (hh:w.heap[blk]? = some (.cells #[p,v] 107 (0,0)))
  (hp:p' = .pointer none∨p' = .pointer (some ⟨blk,0,none⟩)) (hv:Rep E w buf' v') (h1:v'.oneCell' = true) (hcl:buf'.closed = true∨buf'.tokSl = true) :
  SR PQ G N0 w0 I0 { S with boxes:=S.boxes.set b (some (typB 107 [.opq,buf'])) } E (w.setRow blk #[p',v'])∧Env.Le E E w (w.setRow blk #[p',v']):=by
 have hblk:∀ k,k ≠ blk→(w.setRow blk #[p',v']).heap[k]? = w.heap[k]?:=fun k hk=>setRow_other w blk k #[p',v'] hk
 have hnf:=not_frz hb
 have hle:Env.Le E E w (w.setRow blk #[p',v']):=⟨fun c o hi=>⟨hi,World.cell?_of_block (a:=⟨c,o,none⟩) (hblk c (fun e=>hnf ((hS.Blt b blk hB).2.2.2 o (e ▸ hi))))⟩,fun _ _ h=>h,fun _ _ _ h=>h,fun id' x hx=>by
  by_cases e:x = blk
  ·subst e; exact rows_setRow hh rfl
  ·exact rowsOf_block (hblk x e)⟩
 refine hS.obj_set hB rfl rfl rfl (by simp) hblk (.typ 107 [.opq,buf'] #[p',v'] rfl (setRow_heap w blk #[p,v] #[p',v'] 107 _ hh) rfl (fun c hc=>?_) (fun _=>?_) fun i c u hi hu=>?_) hnf (rows_setRow hh rfl)
 ·simp only [List.mem_cons,List.not_mem_nil,or_false] at hc
  rcases hc with rfl | rfl
  ·exact .inl rfl
  ·exact hcl
 ·simpa using hp
 ·match i,hi,hu with
  | 0,hi,hu =>
   simp at hi hu; subst hi; subst hu
   exact ⟨.opq _ (by rcases hp with rfl | rfl <;> rfl),by rcases hp with rfl | rfl <;> rfl⟩
  | 1,hi,hu=>simp at hi hu; subst hi; subst hu; exact ⟨hv.le hle,h1⟩
  | i + 2,hi,hu=>simp at hi
end
theorem bld_check_used (b:Nat) (w:World) (h0:w.cell? ⟨b,0,none⟩ = some (.pointer (some ⟨b,0,none⟩))) :
  Calls PQ 102 #[.pointer (some ⟨b,0,none⟩)] w fun e w'=>e = .returned (.tuple #[])∧w' = w:=
 Any.Builder_copyCheck_used (ρ:=Tryz.lays156_ren) { Tryz.lays156 with } Tryz.Builder_Extra_156.toX72 b w h0
theorem bld_check_fresh (b:Nat) (w:World) (h0:w.cell? ⟨b,0,none⟩ = some (.pointer none)) (hsh:w.shape? b = some (107,2)) (hfz:w.frozen? ⟨b,0,none⟩ = false) :
  Calls PQ 102 #[.pointer (some ⟨b,0,none⟩)] w fun e w'=>e = .returned (.tuple #[])∧w' = w.setCell ⟨b,0,none⟩ (.pointer (some ⟨b,0,none⟩)):=
 Any.Builder_copyCheck_fresh (ρ:=Tryz.lays156_ren) { Tryz.lays156 with } Tryz.Builder_Extra_156.toX72 b w h0 hsh hfz
theorem setCell_row0 {w:World} {b:Nat} {p v q:Value} {T:TypeId} {fr:Nat × Nat} (h:w.heap[b]? = some (.cells #[p,v] T fr)):w.setCell ⟨b,0,none⟩ q = w.setRow b #[q,v]:=by
 unfold World.setCell World.setRow
 congr 1
 apply Array.ext_getElem?
 intro i
 simp only [Array.getElem?_modify]
 by_cases hi:b = i
 ·subst hi; simp [h]
 ·simp [hi]
theorem setCell_row1 {w:World} {b:Nat} {p v q:Value} {T:TypeId} {fr:Nat × Nat} (h:w.heap[b]? = some (.cells #[p,v] T fr)):w.setCell ⟨b,1,none⟩ q = w.setRow b #[p,q]:=by
 unfold World.setCell World.setRow
 congr 1
 apply Array.ext_getElem?
 intro i
 simp only [Array.getElem?_modify]
 by_cases hi:b = i
 ·subst hi; simp [h]
 ·simp [hi]
theorem wpList_append_run {P:Program} {w:World} {ops:Array Oper} {rest:List Oper} {o:Oper} {a:Act} {Q:Exit→Act→World→Prop} (hgd:o.guard = none) (sl x:Operand) (t u:TypeId)
  (ho:o.op = .call { callee:=.builtin .append,args:=#[sl,x],argTypes:=#[t,u] }) {v y v':Value} {w':World} (hs:a.eval sl = v) (hx:a.eval x = y) (hr:(Builtin.append_ #[t,u] o.type #[v,y]).run P w = .ok v' w')
  (h:wpList P ops Q rest (a.put o.dst v') w'):wpList P ops Q (o :: rest) a w:=by
 refine wpList_plain hgd fun K hK=>?_
 unfold Oper.wp execOp
 simp only [ho,resolve,invoke,builtin,Sem.run_bind,Sem.run_pure,Result.andThen_ok,List.map_toArray,List.map_cons,List.map_nil,hs,hx,hr]
 exact hK _ _ h
section
variable {N0 : Nat → Prop} {w0 : World} {I0 : Nat → Nat → Prop} {S : St} {E : Env} {w : World}
theorem check_walk {m:Int} {b blk k:Nat} {es:List AV} (hS:SR PQ (GQ m) N0 w0 I0 S E w) (hb:S.boxes[b]? = some (some (typB 107 [.opq,.sl 1 es (.tok k)]))) (hB:E.B b = some blk) :
  Calls PQ 102 #[.pointer (some ⟨blk,0,none⟩)] w fun e w1=>e = .returned (.tuple #[])∧SR PQ (GQ m) N0 w0 I0 S E w1∧Env.Le E E w w1∧∃ v,w1.heap[blk]? = some (.cells #[.pointer (some ⟨blk,0,none⟩),v] 107 (0,0))∧Rep E w1 (.sl 1 es (.tok k)) v∧v.oneCell' = true:=by
 obtain ⟨p,v,hh,hp,hv,h1⟩:=bld_at hS hb hB
 rcases hp with rfl | rfl
 ·refine (bld_check_fresh blk w (by simp [World.cell?,hh]) (by simp [World.shape?,hh]) (by simp [World.frozen?,hh])).mono ?_
  rintro e w1 ⟨rfl,rfl⟩
  rw [setCell_row0 hh]
  obtain ⟨hS1,hL⟩:=bld_set hS hb hB hh (.inr rfl) hv h1 (.inr rfl)
  have hid:S.boxes.set b (some (typB 107 [.opq,.sl 1 es (.tok k)])) = S.boxes:=by
   apply List.ext_getElem?
   intro i
   rw [List.getElem?_set]
   by_cases hi:b = i
   ·subst hi
    have:=(List.getElem?_eq_some_iff.1 hb).1
    rw [if_pos rfl,if_pos this,hb]
   ·simp [hi]
  rw [hid] at hS1
  exact ⟨rfl,hS1,hL,v,setRow_heap w blk _ _ 107 _ hh,hv.le hL,h1⟩
 ·refine (bld_check_used blk w (by simp [World.cell?,hh])).mono ?_
  rintro e w1 ⟨rfl,rfl⟩
  exact ⟨rfl,hS,Env.Le.refl _ _,v,hh,hv,h1⟩
set_option maxHeartbeats 4000000 in
set_option maxRecDepth 100000 in
theorem ws_walk {m:Int} {b blk k:Nat} {es:List AV} {s:List UInt8} {sb:ByteArray} (hS:SR PQ (GQ m) N0 w0 I0 S E w) (hb:S.boxes[b]? = some (some (typB 107 [.opq,.sl 1 es (.tok k)]))) (hB:E.B b = some blk)
  (hl:S.live[k]? = some (es.length,5)) (hs:sb.data.toList = s) (hne:s ≠ []) (hroom:(es.length + s.length) * 2≤70368744177664) :
  Calls PQ 50 #[.pointer (some ⟨blk,0,none⟩),.string sb] w fun e w'=>e = .returned (.tuple #[.int .i64 s.length,.nilIface]) ∧
   ∃ E',SR PQ (GQ m) N0 w0 I0 ⟨S.boxes.set b (some (typB 107 [.opq,.sl 1 (es ++ bytesL s) (.tok k)])),S.live.set k (es.length + s.length,5)⟩ E' w'∧Env.Le E E' w w':=by
 go_enter Tryz.func50,Tryz.ntmps50
 go_wp2_with fail
 refine (check_walk hS hb hB).mono ?_
 rintro e w1 ⟨rfl,hS1,hL1,v,hh,hv,h1⟩
 have hlen:(bytesL s).length = s.length:=List.length_map _
 have ha:appendA PQ S 22 9 (.sl 1 es (.tok k)) (.str s) = some (.sl 1 (es ++ bytesL s) (.tok k),{ S with live:=S.live.set k (es.length + s.length,5) }):=by
  have hu:PQ.underlying 22 = some (.slice 5):=by kernel_rfl
  have hu9:PQ.underlying 9 = some .string:=by kernel_rfl
  obtain ⟨i0,hi,hz0,hz1,hz2⟩:=info_parts Tryz.Builder_Extra_156.infoByte
  have hi:PQ.info? 5 = some i0:=hi
  have hb0:bytesL s ≠ []:=by cases s with
   | nil=>exact absurd rfl hne
   | cons c t=>simp
  have hl':S.live[k]? = some (es.length,5):=hl
  simp only [appendA,hu,hi,srcA,hu9,hz0,hz1,hz2,Option.map_some,if_true,hlen,Own.weak,hl',hb0,if_false]
  rw [if_pos ⟨.inl trivial,by decide,rfl⟩,if_pos (c:=(es.length + s.length) * (1 + 1)≤roomA) hroom,if_pos ⟨trivial,trivial⟩]
 obtain ⟨v2,w2,E2,hrun,hS2,hL2,hr2⟩:=appendA_run (ty:=22) hS1 ha hv (.str s sb hs)
 have c1:w1.cell? ⟨blk,1,none⟩ = some v:=by simp [World.cell?,hh]
 have hb2:=hb
 obtain ⟨p3,v3,hh3,hp3,_,_⟩:=bld_at hS2 hb ((hL1.trans hL2).B _ _ hB)
 have c3:w2.cell? ⟨blk,1,none⟩ = some v3:=by simp [World.cell?,hh3]
 have f3:w2.frozen? ⟨blk,1,none⟩ = false:=by simp [World.frozen?,hh3]
 have hone:v2.oneCell' = true:=by cases hr2 with | sl=>rfl
 have hcells:v2.cells = #[v2]:=by cases hr2 with | sl=>rfl
 have fin:=bld_set hS2 hb ((hL1.trans hL2).B _ _ hB) hh3 hp3 hr2 hone (.inr rfl)
 rw [← setCell_row1 hh3] at fin
 have FIN:=Lib.hid fin
 have HL:=Lib.hid (hL1.trans hL2)
 obtain ⟨A,n3,cap3,rfl⟩:∃ A n c,v2 = .slice A n c:=by cases hr2 with | sl=>exact ⟨_,_,_,rfl⟩
 clear ha hS hS1 hS2 hL1 hL2 hr2 hv fin hl hroom hh hp3 hb2 hone hcells
 go_wp2_with (at_builtin; refine wpList_append_run rfl _ _ 22 9 rfl rfl rfl hrun ?_)
 go_ret2
 refine ⟨?_,E2,FIN.out.1,HL.out.trans FIN.out.2⟩
 rw [size_data,hs]; rfl
end
def s50:ISpec:=fun args S=>match args with
 | [.ptr b 0,.str s] =>
  match S.boxes[b]? with
  | some (some [.tup [.int .i64 t,.agg [.opq,.sl sz es (.tok k)]]]) =>
   match S.live[k]? with
   | some (n,e)=>some ((t = 107∧sz = 1∧e = 5∧n = es.length)∧s ≠ []∧(es.length + s.length) * 2≤70368744177664,.tup [.int .i64 s.length,.lit .nilIface],⟨S.boxes.set b (some (typB 107 [.opq,.sl 1 (es ++ bytesL s) (.tok k)])),S.live.set k (es.length + s.length,5)⟩)
   | none=>none
  | _=>none
 | _=>none
theorem o50 (m:Int):ISpecOk PQ (GQ m) 50 s50:=by
 intro g args S r S' hr
 simp only [lowC] at hr
 by_cases e:g = 50
 ·subst e
  simp only [if_true] at hr
  split at hr
  case h_2=>cases hr
  case h_1 x hx =>
  split at hr
  case isFalse=>cases hr
  case isTrue hp =>
  simp only [Option.some.injEq] at hr
  unfold s50 at hx
  split at hx
  case h_2=>cases hx
  rename_i b s
  split at hx
  case h_2=>cases hx
  rename_i t sz es k hb
  split at hx
  case h_2=>cases hx
  rename_i n e hl
  injection hx with hx
  subst hx
  obtain ⟨⟨rfl,rfl,rfl,rfl⟩,hne,hroom⟩:=hp
  injection hr with e1 e2
  subst e1; subst e2
  refine ⟨goodQ (by kernel_rfl),fun N0 w0 I0 E w vs hS hn hv=>?_⟩
  obtain ⟨l⟩:=vs
  match l,hn with
  | [a,c],_ =>
   have ha:=hv 0 _ a rfl rfl
   obtain ⟨sb,rfl,hsb⟩:=rep_str (hv 1 _ c rfl rfl)
   cases ha with | ptr _ _ blk hB =>
   exact (ws_walk hS hb hB hl hsb hne hroom).mono fun e w' ⟨he,E',h1,h2⟩=>⟨_,E',he,h1,h2,rep_tup2 (.int _ _) (.lit _ rfl)⟩
 ·simp only [if_neg e] at hr
  cases hr
/-! String -/
section
variable {P : Program} {G : Glob} {N0 : Nat → Prop} {w0 : World} {I0 : Nat → Nat → Prop} {S : St} {E : Env} {w w' : World}
theorem SR.other (h:SR P G N0 w0 I0 S E w) (hl:S.live = []) {g:Nat} (hg1:¬ N0 g) (hg2:∀ id,E.B id ≠ some g) (hos:w'.os = w.os) (htp:w'.tape = w.tape) (hout:w'.output = w.output) (hsz:w'.heap.size = w.heap.size)
  (hblk:∀ k,k ≠ g→w'.heap[k]? = w.heap[k]?) (hcell:∀ o,w'.cell? ⟨g,o,none⟩ = w.cell? ⟨g,o,none⟩):SR P G N0 w0 I0 S E w'∧Env.Le E E w w':=by
 have hle:Env.Le E E w w':=⟨fun b o hi=>⟨hi,by
  by_cases e:b = g
  ·subst e; exact hcell o
  ·exact World.cell?_of_block (a:=⟨b,o,none⟩) (hblk b e)⟩,fun _ _ h=>h,fun _ _ _ h=>h,fun id x hx=>rowsOf_block (hblk x fun e=>hg2 id (e ▸ hx))⟩
 refine ⟨⟨h.below.trans ⟨hos,htp,hout,by omega,fun k hk=>hblk k (fun e=>hg1 (e ▸ hk))⟩,fun b hb'=>by have:=h.n0 b hb'; omega,fun b o hi=>by have:=h.Ilt b o hi; omega,h.Iold,fun id b he=>?_,h.Binj,fun id cs hi=>?_,h.glob.le hle,h.hole,h.Klt,fun t n v hk g hg=>by have hlt:=h.Kblk t n v hk g hg; omega,fun t n e ht=>?_⟩,hle⟩
 ·obtain ⟨a1,a2,a3,a4⟩:=h.Blt id b he
  exact ⟨a1,a2,by omega,a4⟩
 ·obtain ⟨blk,hB,hx⟩:=h.box id cs hi
  exact ⟨blk,hB,hx.le (hblk blk fun e=>hg2 id (e ▸ hB)) hle⟩
 ·rw [hl] at ht; cases ht
end
set_option maxHeartbeats 4000000 in
set_option maxRecDepth 100000 in
theorem str_exact (b g cap:Nat) (p:Value) (cur:Array Value) (l:List UInt8) (w:World) (h0:l ≠ []) (hbk:w.heap[b]? = some (.cells #[p,.slice (some ⟨g,0,none⟩) l.length cap] 107 (0,0))) (hg:w.heap[g]? = some (.cells cur 5 (0,0)))
  (hnc:l.length≤cap) (hcm:cap≤maxLen) (hcs:cur.size = cap) (hcur:∀ (j:Nat) (x:UInt8),l[j]? = some x→cur[j]? = some (Value.int .u8 x.toNat)) :
  Calls PQ 53 #[.pointer (some ⟨b,0,none⟩)] w fun e w'=>e = .returned (.string ⟨l.toArray⟩)∧w' = w.drew.freeze ⟨g,0,none⟩ l.length:=by
 have hl0:l.length ≠ 0:=by simpa using h0
 have c1:w.drew.cell? ⟨b,1,none⟩ = some (.slice (some ⟨g,0,none⟩) l.length cap):=by
  have:w.drew.heap[b]? = some (.cells #[p,.slice (some ⟨g,0,none⟩) l.length cap] 107 (0,0)):=hbk
  rw [Lib.cell_of_heap this]; rfl
 have hg':w.drew.heap[g]? = some (.cells cur 5 (0,0)):=hg
 have hSD:(Builtin.unsafeSliceData_ #[22] 161 #[.slice (some ⟨g,0,none⟩) l.length cap]).run PQ w.drew = .ok (.pointer (some ⟨g,0,none⟩)) w.drew:=Lib.run_unsafeSliceData_row _ _ _ _ _ _ (by omega)
 have hUS:(Builtin.unsafeString_ #[161,3] 9 #[.pointer (some ⟨g,0,none⟩),.int .i64 l.length]).run PQ w.drew = .ok (.string ⟨l.toArray⟩) (w.drew.freeze ⟨g,0,none⟩ l.length):=by
  refine Lib.run_unsafeString_row w.drew 161 3 9 5 (by kernel_rfl) (by kernel_rfl) g cur.size (by simp [World.shape?,hg']) l h0 (by omega) (by unfold maxLen at hcm; omega) ?_
  intro j x hx
  have:=hcur j x hx
  rw [show (⟨g,0,none⟩:Addr).add j = ⟨g,j,none⟩ from by unfold Addr.add; split <;> simp_all]
  simp [World.cell?,hg',this]
 clear hcur hg hbk hg'
 have mixed:PQ.follows .mixedOrders = true:=mixedQ
 go_enter Tryz.func53,Tryz.ntmps53
 go_wp2
 go_region_o
 all_goals (go_wp2; go_ret; exact ⟨rfl,rfl⟩)
theorem freeze_facts (w:World) (g n:Nat):(w.freeze ⟨g,0,none⟩ n).os = w.os∧(w.freeze ⟨g,0,none⟩ n).tape = w.tape∧(w.freeze ⟨g,0,none⟩ n).output = w.output∧(w.freeze ⟨g,0,none⟩ n).heap.size = w.heap.size ∧
  (∀ k,k ≠ g→(w.freeze ⟨g,0,none⟩ n).heap[k]? = w.heap[k]?)∧∀ o,(w.freeze ⟨g,0,none⟩ n).cell? ⟨g,o,none⟩ = w.cell? ⟨g,o,none⟩:=by
 unfold World.freeze
 split
 ·exact ⟨rfl,rfl,rfl,rfl,fun _ _=>rfl,fun _=>rfl⟩
 ·refine ⟨rfl,rfl,rfl,by simp,fun k hk=>?_,fun o=>?_⟩
  ·simp only [Array.getElem?_modify]
   rw [if_neg (fun e=>hk e.symm)]
  ·unfold World.cell?
   simp only [Array.getElem?_modify,if_true]
   cases w.heap[g]? with
   | none=>rfl
   | some ob=>cases ob <;> rfl
set_option maxRecDepth 100000 in
theorem str_walk {m:Int} {N0:Nat→Prop} {w0:World} {I0:Nat→Nat→Prop} {S:St} {E:Env} {w:World} {b blk:Nat} {l:List UInt8} (hS:SR PQ (GQ m) N0 w0 I0 S E w) (hb:S.boxes[b]? = some (some (typB 107 [.opq,.sl 1 (bytesL l) (.tok 0)]))) (hB:E.B b = some blk)
  (hl:S.live = [(l.length,5)]) (h0:l ≠ []) :
  Calls PQ 53 #[.pointer (some ⟨blk,0,none⟩)] w fun e w'=>e = .returned (.string ⟨l.toArray⟩)∧BelowQ N0 w0 w'∧w'.heap.size = w.heap.size:=by
 obtain ⟨p,v,hh,hp,hv,h1⟩:=bld_at hS hb hB
 have hl0:l.length ≠ 0:=by simpa using h0
 obtain ⟨v0,xs,sz,hsz,hown,hu,hK,hg⟩:=hS.live 0 l.length 5 (by rw [hl]; rfl)
 have hsz1:sz = 1:=by
  have:sizeA PQ 5 = some 1:=by kernel_rfl
  rw [this] at hsz; injection hsz with hsz; exact hsz.symm
 subst hsz1
 have hlen:(bytesL l).length = l.length:=List.length_map _
 cases hv with
 | sl _ _ _ A cap u hcap hmax hA hszs hcl ho hr h1u =>
 rw [hlen] at hcap
 have hv0:v0 = .slice A (bytesL l).length cap:=by
  have h3:E.K 0 (bytesL l).length (.slice A (bytesL l).length cap):=ho
  rw [hlen] at h3 ⊢
  exact (hu _ h3).symm
 subst hv0
 rw [hlen] at hown hK hg hh h1
 obtain ⟨⟨hx,hrow⟩,hnq⟩:=hown
 rcases hrow with ⟨_,hz⟩ | ⟨g,cap',cur,hvv,_,hgc,hnc,hcm,hcs,htk⟩
 ·exact absurd hz hl0
 injection hvv with e1 _ e2
 subst e1; subst e2
 rcases hA with hA | ⟨b',off,hA1,hA2⟩
 ·have:(bytesL l).length = 0:=by rw [hA]; rfl
  omega
 injection hA1 with hA1
 injection hA1 with e3 e4
 subst e3; subst e4
 have hcur:∀ (j:Nat) (x:UInt8),l[j]? = some x→cur[j]? = some (Value.int .u8 x.toNat):=fun j x hj=>by
  have he:(bytesL l)[j]? = some (.int .u8 x.toNat):=by rw [List.getElem?_map,hj]; rfl
  obtain ⟨_,h3⟩:=hA2 j _ 0 _ he rfl
  have h4:=rep_int (hr j _ 0 _ he rfl)
  rw [h4] at h3
  simp [World.cell?,hgc] at h3
  exact h3
 have hgg:(Value.slice (some ⟨g,0,none⟩) l.length cap).ownBlock = some g:=rfl
 obtain ⟨k1,k2,k3⟩:=hg g hgg
 refine (str_exact blk g cap p cur l w h0 hh hgc hnc hcm (by simpa using hcs) hcur).mono ?_
 rintro e w' ⟨rfl,rfl⟩
 obtain ⟨f1,f2,f3,f4,f5,f6⟩:=freeze_facts w.drew g l.length
 have f4':(w.drew.freeze ⟨g,0,none⟩ l.length).heap.size = w.heap.size:=f4
 exact ⟨rfl,hS.below.trans ⟨f1,f2,f3,by omega,fun k hk=>f5 k fun e=>hnq g hgg (e ▸ hk)⟩,f4⟩
end Go.Abs
namespace Go.Abs
open Go.Proofs
structure Ft where
 name:List UInt8
 entity:List UInt8
deriving DecidableEq
def shFt:Sh0→Sh1:=fun o=>.agg [.str,.str,o,o,o,o,o,o,o,o,o,o,o,o,o,o,o,o]
def XF:Shapes:=fun f=>match f with
 | 2000052=>some (.val (shFt (.is .opq)),none)
 | f=>X24 f
open Classical in
theorem tlax_of' {P:Program} {G:Glob} (hm:P.follows .mixedOrders = true) {f:FuncId} {s:Spec}
  (h:∀ args r,s args = some r→∃ (X:Shapes) (R:Callee) (C:CCallee) (fs:FuncId→Bool) (J:InC) (g:TCfg),CalleeOk P G R∧ICalleeOk P G (lowC C)∧InOk P G fs J∧TLaxOk P G X R C fs J g f args r):SpecOk P G f s:=by
 intro g args r lv hr
 by_cases e:g = f
 ·simp only [e,if_true] at hr
  obtain ⟨X,R,C,fs,J,gg,hR,hC,hJ,hh⟩:=h args _ hr
  have:=tlax_of (X:=X) (R:=R) (C:=C) (fs:=fs) (J:=J) (P:=P) (G:=G) (f:=f) (s:=fun xs=>if xs = args then some (r,lv) else none) hm hR hC hJ (fun xs r' h'=>by
   split at h'
   ·rename_i ea
    injection h' with h'
    subst ea; subst h'
    exact ⟨gg,hh⟩
   ·cases h')
  exact this g args r lv (by simp only [e,if_true])
 ·simp only [e,if_false] at hr
  cases hr
def shFnd:Sh × Option TypeId:=(.tup [shFt (.is .opq),.one .bool],none)
def X25:Shapes:=fun f=>match f with
 | 19 | 55 | 56 | 105=>some shFnd
 | 16=>some shB
 | f=>X24 f
def fewB (r:Rq):Bool:=decide (r.feats.length≤100) && decide (r.labels.length≤300)
def s10:Spec:=fun args=>match args with
 | [a]=>match unRqN a with
  | some r=>some (.bool (fewB r),[])
  | none=>none
 | _=>none
def sTrue:Spec:=fun args=>match args with
 | []=>some (.bool true,[])
 | _=>none
theorem w10 (m:Int) (x:Rq) (r:AV):(pureW PQ (GQ m) X25 (tbl []) (itbl []) nAn [] 10 [rqA x] (r,[])) =
((decide ((↑(strsL x.feats).length:Int)≤(100:Int)) = true→(decide ((↑(lbsL x.labels).length:Int)≤(300:Int)) = true→RetIs (AV.bool true) [] (r,[]))∧(decide ((↑(lbsL x.labels).length:Int)≤(300:Int)) = false→RetIs (AV.bool false) [] (r,[])))∧(decide ((↑(strsL x.feats).length:Int)≤(100:Int)) = false→RetIs (AV.bool false) [] (r,[]))):=by kernel_rfl
theorem p10 (m:Int) (x:Rq):PureOk PQ (GQ m) X25 (tbl []) (itbl []) nAn [] 10 [rqA x] (.bool (fewB x),[]):=by
 constructor
 rw [w10]
 have hn:(strsL x.feats).length = x.feats.length:=List.length_map _
 have hm:(lbsL x.labels).length = x.labels.length:=List.length_map _
 simp only [hn,hm]
 unfold fewB
 refine ⟨fun h=>⟨fun h2=>⟨?_⟩,fun h2=>⟨?_⟩⟩,fun h=>⟨?_⟩⟩
 ·rw [decide_eq_true (p:=x.feats.length≤100) (by have:=of_decide_eq_true h; omega),decide_eq_true (p:=x.labels.length≤300) (by have:=of_decide_eq_true h2; omega)]; rfl
 ·rw [decide_eq_false (p:=x.labels.length≤300) (by have:=of_decide_eq_false h2; omega),Bool.and_false]
 ·rw [decide_eq_false (p:=x.feats.length≤100) (by have:=of_decide_eq_false h; omega),Bool.false_and]
theorem o10 (m:Int):SpecOk PQ (GQ m) 10 s10:=spec_of (X:=X25) (m:=[]) mixedQ tbl_nil itbl_nil fun args r h=>by
 unfold s10 at h
 split at h
 case h_2=>cases h
 split at h
 case h_2=>cases h
 rename_i hu
 injection h with h; subst h
 rw [unRqN_inv _ _ hu]
 exact ⟨_,p10 m _⟩
theorem run46 (r:Rq):s46 [rqA r] = some (.bool (formB r),[]):=by simp only [s46,unRqN_ok]
theorem run33 {r:Rq} (h:keysOk r.labels = true):s33 [rqA r] = some (.bool (formB r),[]):=by simp only [s33,unRqN_ok,h,if_true]
theorem run10 (r:Rq):s10 [rqA r] = some (.bool (fewB r),[]):=by simp only [s10,unRqN_ok]
end Go.Abs
namespace Go.Abs
open Go.Proofs Go.RowKit
def s51:Spec:=fun args=>match args with
 | [.sl sz fs .no,.str sep]=>match unL unS fs with
  | some l=>if sz = 1∧l.length≤140737488355328∧(Lib.join l sep).length≤140737488355328 then some (.str (Lib.join l sep),[]) else none
  | none=>none
 | _=>none
theorem o51 (m:Int):SpecOk PQ (GQ m) 51 s51:=by
 intro g args r lv h E w vs hI hG hn' hv hcl
 simp only at h
 split at h
 case isFalse=>cases h
 case isTrue e =>
 subst e
 unfold s51 at h
 split at h
 case h_2=>cases h
 rename_i sz fs sep
 split at h
 case h_2=>cases h
 rename_i l hu
 split at h
 case isFalse=>cases h
 rename_i hc
 obtain ⟨rfl,hn,hj⟩:=hc
 simp only [Option.some.injEq,Prod.mk.injEq] at h
 obtain ⟨rfl,rfl⟩:=h
 obtain rfl:=unL_inv unS_inv hu
 obtain ⟨vl⟩:=vs
 match vl,hn' with
 | [a,c],_ =>
  obtain ⟨sb,rfl,hsb⟩:=rep_str (hv 1 _ c rfl rfl)
  have ha:=hv 0 _ a rfl rfl
  cases ha with
  | sl _ _ _ A cap u hcap hmax hA hszs hcl' ho hr h1u =>
  have hlen:(strsL l).length = l.length:=List.length_map _
  rcases hA with hA | ⟨bk,off,rfl,hA2⟩
  ·have:l = []:=by simpa using hA
   subst this
   refine .inl ⟨goodQ (by kernel_rfl),(Tryz.strings_Join_none A cap sb w).mono fun e w' ⟨he,hw⟩=>⟨_,he,?_⟩⟩
   subst hw
   exact res_below (Below.refl _ _) fun B K=>.str _ _ rfl
  ·
   have hx:∀ (i:Nat) (x:List UInt8),l[i]? = some x→∃ b:ByteArray,b.data.toList = x∧w.cell? ⟨bk,off + i,none⟩ = some (.string b)∧E.I bk (off + i):=fun i x hi=>by
    have he:(strsL l)[i]? = some (.str x):=by rw [List.getElem?_map,hi]; rfl
    obtain ⟨h2,h3⟩:=hA2 i _ 0 _ he rfl
    obtain ⟨b,hb,hbx⟩:=rep_str (hr i _ 0 _ he rfl)
    rw [hb] at h3
    refine ⟨b,hbx,?_,?_⟩
    ·rw [← h3]; congr 2; omega
    ·have:off + i * 1 + 0 = off + i:=by omega
     rw [this] at h2; exact h2
   let bs:List ByteArray:=l.map fun x=>⟨x.toArray⟩
   have hbs:bs.map (fun x:ByteArray=>x.data.toList) = l:=by
    simp only [bs,List.map_map]
    conv=>rhs; rw [← List.map_id l]
    apply List.map_congr_left
    intro x _
    rfl
   have hbl:bs.length = l.length:=List.length_map _
   have hcells:∀ (j:Nat) (x:ByteArray),bs[j]? = some x→w.cell? ⟨bk,off + j,none⟩ = some (.string x):=fun j x hj=>by
    simp only [bs,List.getElem?_map] at hj
    cases hlj:l[j]? with
    | none=>rw [hlj] at hj; cases hj
    | some y =>
     rw [hlj] at hj
     injection hj with hj
     obtain ⟨b,hb,hc,_⟩:=hx j y hlj
     rw [hc]
     have:b = x:=by
      subst hj
      cases b with
      | mk d =>
       congr 1
       apply Array.toList_inj.1
       exact hb
     rw [this]
   by_cases hl0:l = []
   ·subst hl0
    refine .inl ⟨goodQ (by kernel_rfl),(Tryz.strings_Join_none (some ⟨bk,off,none⟩) cap sb w).mono fun e w' ⟨he,hw⟩=>⟨_,he,?_⟩⟩
    subst hw
    exact res_below (Below.refl _ _) fun B K=>.str _ _ rfl
   ·have hbk:bk < w.heap.size:=by
     cases l with
     | nil=>exact absurd rfl hl0
     | cons x t =>
      obtain ⟨_,_,_,h4⟩:=hx 0 x rfl
      exact hI _ _ h4
    have:=Tryz.strings_Join bk off cap bs sb w hcells hbk (by omega) (by rw [hlen] at hcap; omega) (by rw [hbs,hsb]; exact hj)
    rw [hbs,hsb,hbl] at this
    rw [hlen]
    refine .inl ⟨goodQ (by kernel_rfl),this.mono fun e w' ⟨he,hb⟩=>⟨_,he,?_⟩⟩
    exact res_below hb fun B K=>.str _ _ rfl
def lbT (x:Lb):List UInt8:=[34] ++ x.key ++ [34,32] ++ Lib.itoa x.event ++ [32] ++ Lib.itoa x.know
def fmtTail:List UInt8→List Lb→List UInt8
 | _,[]=>[]
 | b,x :: l=>b ++ lbT x ++ fmtTail [44,32] l
def fmtHead (r:Rq):List UInt8:=[111,102,32] ++ r.entity ++ [32,116,97,107,101,32] ++ Lib.join r.feats [44,32]
def fmtMid (r:Rq):List UInt8:=[32,115,101,101,100,32] ++ Lib.itoa r.seed ++ [32,107,101,101,112,32] ++ Lib.itoa r.permille
def fmtL (r:Rq):List UInt8:=if formB r then fmtHead r ++ fmtMid r ++ fmtTail [32,97,116,32] r.labels else []
def s14:Spec:=fun args=>match args with
 | [a]=>match unRqN a with
  | some r=>some (.str (fmtL r),[])
  | none=>none
 | _=>none
structure FX where
 i:Nat
 t:List UInt8
 bf:List UInt8
def shS:Sh × Option TypeId:=(.val (.one .str),none)
def XS:Shapes:=fun f=>match f with
 | 46=>some shB
 | 51 | 52=>some shS
 | _=>none
def stF (r:Rq) (t:List UInt8):St:=⟨[some [.str r.entity,.sl 1 (strsL r.feats) .no,.sl 3 (lbsL r.labels) .no,.int .i64 r.seed,.int .i64 r.permille],some (typB 107 [.opq,.sl 1 (bytesL t) (.tok 0)])],[(t.length,5)]⟩
def a14 (r:Rq):Anns:=⟨fun k=>if k = 8 then some { α:=FX,slots:=[1,3,4,30,31,32],nb:=2,vals:=fun x=>[.ptr 0 0,.ptr 1 0,.str x.bf,.sl 3 (lbsL r.labels) .no,.int .i64 r.labels.length,.int .i64 x.i],sS:=fun x=>stF r x.t,I:=fun x=>x.i≤r.labels.length∧x.t = fmtHead r ++ fmtMid r ++ fmtTail [32,97,116,32] (r.labels.take x.i)∧x.bf = (if x.i = 0 then [32,97,116,32] else [44,32]),μ:=fun x=>r.labels.length - x.i } else none,nA⟩
structure FmtEnd (r:Rq) (p:AV) (S:St) (n:Nat):Prop where
 p:p = .ptr 1 0
 S:∃ b0 t,S = ⟨[some b0,some (typB 107 [.opq,.sl 1 (bytesL t) (.tok 0)])],[(t.length,5)]⟩∧t = fmtL r∧t ≠ []
 n:n = 54
def tS:List (FuncId × Spec):=[(46,s46),(51,s51),(52,s52)]
end Go.Abs
namespace Go.Abs
open Go.Proofs
abbrev w14c1 (x:Rq):List AV:=[AV.str x.entity,AV.sl 1 (strsL x.feats) Own.no,AV.sl 3 (lbsL x.labels) Own.no,AV.int IntKind.i64 x.seed,AV.int IntKind.i64 x.permille]
abbrev w14c2 (x:Rq) (s:List UInt8):=[(111:UInt8),(102:UInt8),(32:UInt8)] ++ x.entity ++ [32,116,97,107,101,32] ++ s
abbrev w14c3 (s_1:List UInt8) (s_2:List UInt8):=(32:UInt8) :: (115:UInt8) :: (101:UInt8) :: (101:UInt8) :: (100:UInt8) :: (32:UInt8) :: s_1 ++ [32,107,101,101,112,32] ++ s_2
abbrev w14c4 (y:FX) (x:Rq):Prop:=y.i≤x.labels.length∧y.t = fmtHead x ++ fmtMid x ++ fmtTail [(32:UInt8),(97:UInt8),(116:UInt8),(32:UInt8)] (List.take y.i x.labels)∧y.bf = if y.i = (0:Nat) then [(32:UInt8),(97:UInt8),(116:UInt8),(32:UInt8)] else [(44:UInt8),(32:UInt8)]
abbrev w14c5 (y:FX) (x:Rq):List AV:=[AV.ptr 0 0,AV.ptr 1 0,AV.str y.bf,AV.sl 3 (lbsL x.labels) Own.no,AV.int IntKind.i64 (↑x.labels.length:Int),AV.int IntKind.i64 (↑y.i:Int)]
abbrev w14c6 (x:Rq) (y:FX):St:={ boxes:=[some (w14c1 x),some [AV.tup [AV.int IntKind.i64 107,AV.agg [AV.opq,AV.sl 1 (bytesL y.t) (Own.tok 0)]]]],live:=[(y.t.length,5)] }
theorem w14 (m:Int) (x:Rq) (r:AV):(tqW PQ idMk (GQ m) XS (tbl tS) (itbl [(50,s50)]) [4,5,10] (a14 x) [] 13 (fun T S=>FmtEnd x (T.getD 3 (.tup [])) S T.length) 14 [rqA x] (fun r0 _=>RetLax r0 (r,[]))) =
(∃ (b:Bool),CallIs (tbl [(46,s46),(51,s51),(52,s52)] 46 [AV.agg (w14c1 x)]) (AV.bool b) []∧(b = true→(3:Nat) + x.entity.length≤(9223372036854775807:Nat)∧([(111:UInt8),(102:UInt8),(32:UInt8)] ++ x.entity).length + (6:Nat)≤(9223372036854775807:Nat)∧∃ (s:List UInt8),CallIs (tbl [(46,s46),(51,s51),(52,s52)] 51 [AV.sl 1 (strsL x.feats) Own.no,AV.str [44,32]]) (AV.str s) []∧([(111:UInt8),(102:UInt8),(32:UInt8)] ++ x.entity ++ [32,116,97,107,101,32]).length + s.length≤(9223372036854775807:Nat)∧(((107:Int) = (107:Int)∧(1:Nat) = (1:Nat)∧(5:Nat) = (5:Nat)∧(0:Nat) = (0:Nat))∧[(111:UInt8),(102:UInt8),(32:UInt8)] ++ x.entity ++ [32,116,97,107,101,32] ++ s ≠ []∧((0:Nat) + (w14c2 x s).length) * (2:Nat)≤(70368744177664:Nat))∧∃ (s_1:List UInt8),CallIs (tbl [(46,s46),(51,s51),(52,s52)] 52 [I6 x.seed]) (AV.str s_1) []∧(6:Nat) + s_1.length≤(9223372036854775807:Nat)∧((32:UInt8) :: (115:UInt8) :: (101:UInt8) :: (101:UInt8) :: (100:UInt8) :: (32:UInt8) :: s_1).length + (6:Nat)≤(9223372036854775807:Nat)∧∃ (s_2:List UInt8),CallIs (tbl [(46,s46),(51,s51),(52,s52)] 52 [I6 x.permille]) (AV.str s_2) []∧((32:UInt8) :: (115:UInt8) :: (101:UInt8) :: (101:UInt8) :: (100:UInt8) :: (32:UInt8) :: s_1 ++ [32,107,101,101,112,32]).length + s_2.length≤(9223372036854775807:Nat)∧(((107:Int) = (107:Int)∧(1:Nat) = (1:Nat)∧(5:Nat) = (5:Nat)∧(0:Nat) + (w14c2 x s).length = ([] ++ bytesL (w14c2 x s)).length)∧(32:UInt8) :: (115:UInt8) :: (101:UInt8) :: (101:UInt8) :: (100:UInt8) :: (32:UInt8) :: s_1 ++ [32,107,101,101,112,32] ++ s_2 ≠ []∧(([] ++ bytesL (w14c2 x s)).length + (w14c3 s_1 s_2).length) * (2:Nat)≤(70368744177664:Nat))∧(∃ (y:FX),ValsAre [AV.ptr 0 0,AV.ptr 1 0,AV.str [32,97,116,32],AV.sl 3 (lbsL x.labels) Own.no,I6 (↑(lbsL x.labels).length:Int),I6 0] (w14c5 y x)∧StIs { boxes:=[some (w14c1 x),some [AV.tup [I6 107,AV.agg [AV.opq,AV.sl 1 ([] ++ bytesL (w14c2 x s) ++ bytesL (w14c3 s_1 s_2)) (Own.tok 0)]]]],live:=[(([] ++ bytesL (w14c2 x s)).length + (w14c3 s_1 s_2).length,5)] } (w14c6 x y)∧(w14c4 y x)∧True)∧∀ (x_1:FX),(x_1.i≤x.labels.length∧x_1.t = fmtHead x ++ fmtMid x ++ fmtTail [(32:UInt8),(97:UInt8),(116:UInt8),(32:UInt8)] (List.take x_1.i x.labels)∧x_1.bf = if x_1.i = (0:Nat) then [(32:UInt8),(97:UInt8),(116:UInt8),(32:UInt8)] else [(44:UInt8),(32:UInt8)])→(decide ((↑x_1.i:Int) < (↑x.labels.length:Int)) = true→((0:Int)≤(↑x_1.i:Int)∧(↑x_1.i:Int) < (↑(lbsL x.labels).length:Int))∧∃ (s:List UInt8),∃ (n:Int),∃ (n_1:Int),takeAt PQ 65 (lbsL x.labels) (↑x_1.i:Int).toNat 0 = some (AV.agg [AV.str s,I6 n,I6 n_1])∧x_1.bf.length + (1:Nat)≤(9223372036854775807:Nat)∧(x_1.bf ++ [34]).length + s.length≤(9223372036854775807:Nat)∧(x_1.bf ++ [34] ++ s).length + (2:Nat)≤(9223372036854775807:Nat)∧∃ (s_3:List UInt8),CallIs (tbl [(46,s46),(51,s51),(52,s52)] 52 [I6 n]) (AV.str s_3) []∧(x_1.bf ++ [34] ++ s ++ [34,32]).length + s_3.length≤(9223372036854775807:Nat)∧(x_1.bf ++ [34] ++ s ++ [34,32] ++ s_3).length + (1:Nat)≤(9223372036854775807:Nat)∧∃ (s_4:List UInt8),CallIs (tbl [(46,s46),(51,s51),(52,s52)] 52 [I6 n_1]) (AV.str s_4) []∧(x_1.bf ++ [34] ++ s ++ [34,32] ++ s_3 ++ [32]).length + s_4.length≤(9223372036854775807:Nat)∧(((107:Int) = (107:Int)∧(1:Nat) = (1:Nat)∧(5:Nat) = (5:Nat)∧x_1.t.length = (bytesL x_1.t).length)∧x_1.bf ++ [34] ++ s ++ [34,32] ++ s_3 ++ [32] ++ s_4 ≠ []∧((bytesL x_1.t).length + (x_1.bf ++ [34] ++ s ++ [34,32] ++ s_3 ++ [32] ++ s_4).length) * (2:Nat)≤(70368744177664:Nat))∧∃ (y:FX),ValsAre [AV.ptr 0 0,AV.ptr 1 0,AV.str [44,32],AV.sl 3 (lbsL x.labels) Own.no,I6 (↑x.labels.length:Int),I6 (IntKind.i64.wrap ((↑x_1.i:Int) + (1:Int)))] (w14c5 y x)∧StIs { boxes:=[some (w14c1 x),some [AV.tup [I6 107,AV.agg [AV.opq,AV.sl 1 (bytesL x_1.t ++ bytesL (x_1.bf ++ [34] ++ s ++ [34,32] ++ s_3 ++ [32] ++ s_4)) (Own.tok 0)]]]],live:=[((bytesL x_1.t).length + (x_1.bf ++ [34] ++ s ++ [34,32] ++ s_3 ++ [32] ++ s_4).length,5)] } (w14c6 x y)∧(w14c4 y x)∧x.labels.length - y.i < x.labels.length - x_1.i)∧(decide ((↑x_1.i:Int) < (↑x.labels.length:Int)) = false→FmtEnd x (AV.ptr 1 0) { boxes:=[some (w14c1 x),some [AV.tup [I6 107,AV.agg [AV.opq,AV.sl 1 (bytesL x_1.t) (Own.tok 0)]]]],live:=[(x_1.t.length,5)] } (54:Nat)))∧(b = false→RetLax (AV.str []) (r,[]))):=by kernel_rfl
end Go.Abs
namespace Go.Abs
open Go.Proofs Go.RowKit
theorem rs46 (x:Rq):tbl tS 46 [rqA x] = some (.bool (formB x),[]):=by
 show s46 [rqA x] = _
 simp only [s46,unRqN_ok]
theorem rs52 {n:Int} (h0:-9223372036854775808≤n) (h1:n≤9223372036854775807):tbl tS 52 [.int .i64 n] = some (.str (Lib.itoa n),[]):=by
 show s52 [.int .i64 n] = _
 simp only [s52]
 rw [if_pos ⟨h0,h1⟩]
theorem rs51 {l:List (List UInt8)} {sep:List UInt8} (h0:l.length≤140737488355328) (h1:(Lib.join l sep).length≤140737488355328):tbl tS 51 [.sl 1 (strsL l) .no,.str sep] = some (.str (Lib.join l sep),[]):=by
 show s51 [.sl 1 (strsL l) .no,.str sep] = _
 simp only [s51,strsL,unL_map unS_ok]
 rw [if_pos ⟨trivial,h0,h1⟩]
theorem takeLb0 (x:Lb):takeA (aggA PQ 65) (sizeA PQ 65) (lbA x).cells 0 = some (lbA x):=by kernel_rfl
theorem takeLb (l:List Lb) (i:Nat) (h:i < l.length):takeAt PQ 65 (lbsL l) i 0 = some (lbA l[i]):=by
 have e1:(lbsL l)[i]? = some (lbA l[i]):=by rw [List.getElem?_map,List.getElem?_eq_getElem h]; rfl
 unfold takeAt
 rw [e1]
 exact takeLb0 _
theorem tick_bd {n:Int} (h:tickB n = true):-9223372036854775808≤n∧n≤9223372036854775807:=by
 unfold tickB at h
 simp at h
 omega
structure FmtIn (r:Rq):Prop where
 en:r.entity.length≤24
 nf:r.feats.length≤8
 lf:∀ f ∈ r.feats,f.length≤24
 nl:r.labels.length≤256
 ll:∀ x ∈ r.labels,x.key.length≤32∧(-9223372036854775808≤x.event∧x.event≤9223372036854775807)∧-9223372036854775808≤x.know∧x.know≤9223372036854775807
 sd:-9223372036854775808≤r.seed∧r.seed≤9223372036854775807
 pm:-9223372036854775808≤r.permille∧r.permille≤9223372036854775807
theorem nameR_len {s:List UInt8} (h:nameR s = true):s.length≤24:=by
 simp [nameR] at h; omega
theorem featsOk_len:∀ {l seen:List (List UInt8)},featsOk seen l = true→∀ f ∈ l,f.length≤24
 | [],_,_,f,hf=>by cases hf
 | a :: l,seen,h,f,hf=>by
  simp only [featsOk,Bool.and_eq_true] at h
  rcases List.mem_cons.1 hf with rfl | hf
  ·exact nameR_len h.1.1
  ·exact featsOk_len h.2 f hf
theorem fmt_in {r:Rq} (h:formB r = true):FmtIn r:=by
 simp only [formB,headOk,Bool.and_eq_true,decide_eq_true_eq,List.all_eq_true] at h
 obtain ⟨⟨⟨⟨⟨⟨⟨⟨h1,h2⟩,h3⟩,h4⟩,h5⟩,h6⟩,h7⟩,h8⟩,h9⟩:=h
 refine ⟨nameR_len h1,h3,featsOk_len h8,h4,fun x hx=>?_,tick_bd h5,by omega,by omega⟩
 have:=h9 x hx
 simp only [lbOk,keyB,Bool.and_eq_true,decide_eq_true_eq] at this
 exact ⟨this.1.1.1.2,tick_bd this.1.2,tick_bd this.2⟩
theorem join_cons2 (a b:List UInt8) (l:List (List UInt8)) (sep:List UInt8):Lib.join (a :: b :: l) sep = a ++ (sep ++ Lib.join (b :: l) sep):=by
 rw [Lib.join_cons,Lib.join_cons]
 simp [Lib.joinTail]
theorem join_len (sep:List UInt8):∀ (l:List (List UInt8)),(∀ f ∈ l,f.length≤24)→(Lib.join l sep).length≤l.length * (24 + sep.length)
 | [],_=>by simp [Lib.join]
 | [a],h=>by have:=h a (by simp); simp [Lib.join]; omega
 | a :: b :: l,h=>by
  have h1:=h a (by simp)
  have h2:=join_len sep (b :: l) fun f hf=>h f (List.mem_cons_of_mem _ hf)
  rw [join_cons2,List.length_append,List.length_append]
  have h3:(a :: b :: l).length * (24 + sep.length) = (b :: l).length * (24 + sep.length) + (24 + sep.length):=by rw [List.length_cons,Nat.add_mul]; omega
  rw [h3]
  omega
theorem lbT_len {x:Lb} (h:x.key.length≤32∧(-9223372036854775808≤x.event∧x.event≤9223372036854775807)∧-9223372036854775808≤x.know∧x.know≤9223372036854775807):(lbT x).length≤100:=by
 have h1:=Lib.itoa_length_le x.event h.2.1.1 h.2.1.2
 have h2:=Lib.itoa_length_le x.know h.2.2.1 h.2.2.2
 simp only [lbT,List.length_append,List.length_cons,List.length_nil]
 omega
theorem fmtTail_len:∀ (l:List Lb) (b:List UInt8),b.length≤4→(∀ x ∈ l,(lbT x).length≤100)→(fmtTail b l).length≤l.length * 104
 | [],b,_,_=>by simp [fmtTail]
 | x :: l,b,hb,h=>by
  have h1:=h x (by simp)
  have h2:=fmtTail_len l [44,32] (by decide) fun y hy=>h y (List.mem_cons_of_mem _ hy)
  simp only [fmtTail,List.length_append,List.length_cons]
  rw [Nat.add_mul]
  omega
theorem fmtTail_snoc:∀ (l:List Lb) (b:List UInt8) (x:Lb),fmtTail b (l ++ [x]) = fmtTail b l ++ ((if l = [] then b else [44,32]) ++ lbT x)
 | [],b,x=>by simp [fmtTail]
 | y :: l,b,x=>by
  rw [List.cons_append,fmtTail,fmtTail_snoc l,fmtTail]
  by_cases h:l = []
  ·simp [h]
  ·simp [h]
theorem fmtHead_len {r:Rq} (h:FmtIn r):(fmtHead r).length≤300:=by
 have h1:=join_len [44,32] r.feats h.lf
 have h2:=h.en
 have h3:=h.nf
 simp only [fmtHead,List.length_append,List.length_cons,List.length_nil] at h1 ⊢
 omega
theorem fmtMid_len {r:Rq} (h:FmtIn r):(fmtMid r).length≤100:=by
 have h1:=Lib.itoa_length_le r.seed h.sd.1 h.sd.2
 have h2:=Lib.itoa_length_le r.permille h.pm.1 h.pm.2
 simp only [fmtMid,List.length_append,List.length_cons,List.length_nil]
 omega
def tO (x:Rq) (i:Nat):List UInt8:=fmtHead x ++ fmtMid x ++ fmtTail [32,97,116,32] (x.labels.take i)
theorem tO_len {x:Rq} (h:FmtIn x) (i:Nat):(tO x i).length≤30000:=by
 have h1:=fmtHead_len h
 have h2:=fmtMid_len h
 have h3:=fmtTail_len (x.labels.take i) [32,97,116,32] (by decide) fun y hy=>lbT_len (h.ll y (List.mem_of_mem_take hy))
 have h4:=h.nl
 have h5:(x.labels.take i).length≤256:=by simp; omega
 simp only [tO,List.length_append]
 omega
theorem tO_ne (x:Rq) (i:Nat):tO x i ≠ []:=by
 simp [tO,fmtHead]
theorem tO_succ {x:Rq} {i:Nat} (h:i < x.labels.length):tO x (i + 1) = tO x i ++ ((if i = 0 then [32,97,116,32] else [44,32]) ++ lbT x.labels[i]):=by
 unfold tO
 rw [List.take_succ_eq_append_getElem h,fmtTail_snoc,← List.append_assoc]
 by_cases h0:i = 0
 ·subst h0; simp
 ·have:x.labels.take i ≠ []:=by
   intro e
   have:=congrArg List.length e
   rw [List.length_take,List.length_nil] at this
   omega
  rw [if_neg this,if_neg h0]
theorem bytes_app (a b:List UInt8):bytesL a ++ bytesL b = bytesL (a ++ b):=by simp [bytesL]
theorem bytes_len (a:List UInt8):(bytesL a).length = a.length:=List.length_map _
theorem nonempty_of_len {l:List UInt8} (h:0 < l.length):l ≠ []:=fun e=>by rw [e] at h; cases h
theorem i64_small {n:Nat} (h:n≤100000):IntKind.i64.wrap ((n:Int) + 1) = ((n + 1:Nat):Int):=by
 exact wrapI (by omega)
theorem p14 (m:Int) (x:Rq):TqOk PQ (GQ m) XS (tbl tS) (itbl [(50,s50)]) [4,5,10] (a14 x) [] 13 (fun T S=>FmtEnd x (T.getD 3 (.tup [])) S T.length) 14 [rqA x] (.str (fmtL x)):=by
 constructor
 rw [w14]; unfold w14c6 w14c5 w14c4 w14c3 w14c2 w14c1 I6
 simp only [valsAre_iff,stIs_iff,callIs_iff,true_and,and_true]
 refine ⟨formB x,rs46 x,fun hb=>?_,fun hb=>?_⟩
 ·have h:=fmt_in hb
  have e1:=h.en
  have e2:=join_len [44,32] x.feats h.lf
  have e3:=h.nf
  have e4:=Lib.itoa_length_le x.seed h.sd.1 h.sd.2
  have e5:=Lib.itoa_length_le x.permille h.pm.1 h.pm.2
  have e6:(Lib.join x.feats [44,32]).length≤208:=by simp only [List.length_cons,List.length_nil] at e2; omega
  have nl:=h.nl
  have l0:(lbsL x.labels).length = x.labels.length:=List.length_map _
  refine ⟨by omega,by simp; omega,Lib.join x.feats [44,32],rs51 (by omega) (by omega),by simp; omega,⟨nonempty_of_len (by simp),by simp; omega⟩,Lib.itoa x.seed,rs52 h.sd.1 h.sd.2,by omega,by simp; omega,Lib.itoa x.permille,rs52 h.pm.1 h.pm.2,by simp; omega,⟨by simp,by simp; omega⟩,⟨⟨0,tO x 0,[32,97,116,32]⟩,by rw [l0]; rfl,?_,⟨Nat.zero_le _,rfl,rfl⟩⟩,fun y hy=>?_⟩
  ·have:tO x 0 = fmtHead x ++ fmtMid x:=by simp [tO,fmtTail]
   simp only [this,fmtHead,fmtMid]
   simp [bytesL]
   omega
  ·obtain ⟨i,t,bf⟩:=y
   obtain ⟨hi,ht,hbf⟩:=hy
   simp only at hi ht hbf
   have ht':t = tO x i:=ht
   subst ht'
   have tl:=tO_len h i
   dsimp only
   refine ⟨fun hlt=>?_,fun hge=>?_⟩
   ·have hlt:i < x.labels.length:=by have:=of_decide_eq_true hlt; omega
    have hbl:bf.length≤4:=by rw [hbf]; split <;> simp
    obtain ⟨k1,k2,k3⟩:=h.ll x.labels[i] (List.getElem_mem hlt)
    have k4:=Lib.itoa_length_le _ k2.1 k2.2
    have k5:=Lib.itoa_length_le _ k3.1 k3.2
    have tx:bf ++ [34] ++ x.labels[i].key ++ [34,32] ++ Lib.itoa x.labels[i].event ++ [32] ++ Lib.itoa x.labels[i].know = bf ++ lbT x.labels[i]:=by simp [lbT]
    have tn:tO x i ++ (bf ++ lbT x.labels[i]) = tO x (i + 1):=by rw [tO_succ hlt,hbf]
    have tl2:(tO x i).length + (bf ++ lbT x.labels[i]).length = (tO x (i + 1)).length:=by rw [← tn]; simp only [List.length_append]
    refine ⟨⟨by omega,by rw [l0]; omega⟩,x.labels[i].key,x.labels[i].event,x.labels[i].know,takeLb x.labels i hlt,by omega,by simp; omega,by simp; omega,Lib.itoa x.labels[i].event,rs52 k2.1 k2.2,by simp; omega,by simp; omega,Lib.itoa x.labels[i].know,rs52 k3.1 k3.2,by simp; omega,⟨(bytes_len _).symm,nonempty_of_len (by simp; omega),by simp; omega⟩,⟨i + 1,tO x (i + 1),[44,32]⟩,?_,?_,⟨hlt,rfl,by simp⟩,by show x.labels.length - (i + 1) < _; omega⟩
    ·rw [i64_small (by omega)]
    ·rw [tx,bytes_len,bytes_app,tn,tl2]
   ·have hge:i = x.labels.length:=by have:=of_decide_eq_false hge; omega
    subst hge
    refine ⟨rfl,⟨_,_,rfl,?_,tO_ne x _⟩,rfl⟩
    show tO x _ = _
    unfold tO fmtL
    rw [hb,if_pos rfl,List.take_length]
 ·unfold fmtL
  rw [hb]
  exact ⟨rfl,rfl,rfl⟩
end Go.Abs
namespace Go.Proofs.Z05
open Go.RowKit
end Go.Proofs.Z05
namespace Go.Proofs.Z05
open Go.RowKit
end Go.Proofs.Z05
namespace Go.Proofs.Z05
open Go.RowKit
end Go.Proofs.Z05
namespace Go.Wire
end Go.Wire
namespace Go.Proofs.Z05
open Go.RowKit
structure Rdr (b bb off n c:Nat) (a:Int) (w:World):Prop where
 sl:w.cell? ⟨b,0,none⟩ = some (.slice (some ⟨bb,off,none⟩) n c)
 at_:w.cell? ⟨b,1,none⟩ = some (.int .i64 a)
 fz:w.frozen? ⟨b,1,none⟩ = false
theorem Rdr.drewN {b bb off n c:Nat} {a:Int} {w:World} (h:Rdr b bb off n c a w) (q:Nat):Rdr b bb off n c a (w.drewN q):=by
 obtain ⟨h1,h2,h3⟩:=h
 exact ⟨by simpa [go_sem] using h1,by simpa [go_sem] using h2,by simpa [go_sem] using h3⟩
theorem Rdr.set {b bb off n c:Nat} {a:Int} {w:World} (h:Rdr b bb off n c a w) (x:Int):Rdr b bb off n c x (w.setCell ⟨b,1,none⟩ (.int .i64 x)):=by
 obtain ⟨h1,h2,h3⟩:=h
 refine ⟨?_,?_,?_⟩
 ·simp [go_sem,h1]
 ·simp [go_sem,h2]
 ·simp [go_sem,h3]
end Go.Proofs.Z05
namespace Go.Proofs.Z05
open Go.RowKit Go.Wire
end Go.Proofs.Z05
namespace Go.Proofs.Z05
open Go.RowKit Go.Wire
end Go.Proofs.Z05
namespace Go.Proofs.Z05
open Go.RowKit Go.Wire
end Go.Proofs.Z05
namespace Go.Proofs.Z05
open Go.RowKit Go.Wire
end Go.Proofs.Z05
namespace Go.Abs
open Go.Proofs Go.RowKit Go.Wire
def lenOk (bs:List UInt8):Prop:=(bs.length:Int)≤1000000000000
instance (bs : List UInt8) : Decidable (lenOk bs) := by unfold lenOk; infer_instance
variable {E : Env} {w w' : World} {G : Glob}
end Go.Abs
namespace Go.Abs
open Go.Proofs Go.Wire
def strOk (s:List UInt8):Prop:=s.length≤2000000
instance (s : List UInt8) : Decidable (strOk s) := inferInstanceAs (Decidable (_ ≤ _))
end Go.Abs
namespace Go.Abs
open Go.Proofs
theorem tbl_hit {g:FuncId} {s:Spec} {l:List (FuncId × Spec)} {args:List AV}:tbl ((g,s) :: l) g args = s args:=by simp only [tbl,if_true]
variable {G : Glob}
end Go.Abs
namespace Go.Abs
open Go.Proofs Go.Wire
def onBytes (es:List AV) (f:List UInt8→Option (AV × List (Nat × TypeId))):Option (AV × List (Nat × TypeId)):=
 match unBytes es with
 | some bs=>f bs
 | none=>none
def u64Ok (n:Int):Prop:=0≤n∧n < 18446744073709551616
instance (n : Int) : Decidable (u64Ok n) := inferInstanceAs (Decidable (_ ∧ _))
def i64W (n:Int):Prop:=-9223372036854775808≤n∧n < 9223372036854775808
instance (n : Int) : Decidable (i64W n) := inferInstanceAs (Decidable (_ ∧ _))
def shLax:Sh × Option TypeId:=(.val (.one (.sl 1 .no)),none)
end Go.Abs
namespace Go.Abs
open Go.Proofs
end Go.Abs
namespace Go.Abs
open Go.Proofs Go.Wire
theorem wrapu8 (n:Int):IntKind.u8.wrap n = n % 256:=by simp [IntKind.wrap,IntKind.bits,IntKind.signed]
theorem wrapi64 (n:Int):IntKind.i64.wrap n = (n + 9223372036854775808) % 18446744073709551616 - 9223372036854775808:=by
 simp only [IntKind.wrap,IntKind.bits,IntKind.signed]
 simp
 split <;> omega
end Go.Abs
namespace Go.Abs
open Go.Proofs
end Go.Abs
namespace Go.Abs
open Go.Proofs Go.Wire
def hornL:List UInt8→Nat
 | []=>0
 | c :: l=>hornL l * 128 + c.toNat % 128
def fewN (bs:List UInt8) (a:Nat):Nat:=min (bs.length - a) 10
def atB (bs:List UInt8) (i:Nat):Nat:=(bs.getD i 0).toNat
structure N117 where
 e:Nat
 n:Nat
 i:Int
structure J117 (bs:List UInt8) (a:Nat) (x:N117):Prop where
 e:x.e < fewN bs a
 l:atB bs (a + x.e) < 128
 b:∀ j:Nat,j < x.e→128≤atB bs (a + j)
 g:x.e = 9→atB bs (a + 9)≤1
 i0:-1≤x.i
 i1:x.i≤x.e
 n:x.n = hornL (((bs.drop a).take (x.e + 1)).drop (x.i + 1).toNat)
end Go.Abs
namespace Go.Abs
open Go.Proofs
end Go.Abs
namespace Go.Abs
open Go.Proofs Go.Wire
theorem atB_drop {bs:List UInt8} {a j:Nat}:((bs.drop a).getD j 0).toNat = atB bs (a + j):=by
 unfold atB
 rw [List.getD_eq_getElem?_getD,List.getD_eq_getElem?_getD,List.getElem?_drop]
theorem hornL_lt:∀ l:List UInt8,hornL l < 2 ^ (7 * l.length)
 | []=>by simp [hornL]
 | c :: l=>by
  have h:=hornL_lt l
  have e:2 ^ (7 * (c :: l).length) = 128 * 2 ^ (7 * l.length):=by
   rw [List.length_cons,show 7 * (l.length + 1) = 7 * l.length + 7 by omega,Nat.pow_add]; omega
  rw [hornL,e]; omega
theorem hornL_snoc:∀ (l:List UInt8) (c:UInt8),c.toNat≤1→hornL (l ++ [c]) < 2 ^ (7 * l.length + 1)
 | [],c,h=>by simp [hornL]; omega
 | d :: l,c,h=>by
  have h:=hornL_snoc l c h
  have e:2 ^ (7 * (d :: l).length + 1) = 128 * 2 ^ (7 * l.length + 1):=by
   rw [List.length_cons,show 7 * (l.length + 1) + 1 = 7 * l.length + 1 + 7 by omega,Nat.pow_add]; omega
  rw [List.cons_append,hornL,e]; omega
theorem J117.lt {bs:List UInt8} {a:Nat} {x:N117} (h:J117 bs a x) (hi:0≤x.i):x.n < 2 ^ 57:=by
 obtain ⟨he,hl,hb,hg,h0,h1,hn⟩:=h
 unfold fewN at he
 obtain ⟨i,hi⟩:∃ i:Nat,x.i = i:=⟨x.i.toNat,by omega⟩
 rw [hi] at hn h1
 rw [hn,show ((i:Int) + 1).toNat = i + 1 by omega]
 by_cases h9:x.e = 9
 ·have h9':=hg h9
  have e:((bs.drop a).take (x.e + 1)).drop (i + 1) = (((bs.drop a).take x.e).drop (i + 1)) ++ (if i < x.e then [(bs.drop a).getD x.e 0] else []):=by
   have hlen:x.e < (bs.drop a).length:=by rw [List.length_drop]; omega
   rw [List.take_succ_eq_append_getElem hlen,List.drop_append]
   congr 1
   rw [List.length_take,Nat.min_eq_left (by omega)]
   by_cases hlt:i < x.e
   ·rw [if_pos hlt,show i + 1 - x.e = 0 by omega,List.drop_zero,List.getD_eq_getElem?_getD,List.getElem?_eq_getElem hlen]; rfl
   ·rw [if_neg hlt,List.drop_eq_nil_of_le (by simp; omega)]
  rw [e]
  by_cases hlt:i < x.e
  ·rw [if_pos hlt]
   have h2:=hornL_snoc (((bs.drop a).take x.e).drop (i + 1)) ((bs.drop a).getD x.e 0) (by rw [atB_drop,h9]; exact h9')
   refine Nat.lt_of_lt_of_le h2 (Nat.pow_le_pow_right (by omega) ?_)
   rw [List.length_drop,List.length_take]; omega
  ·rw [if_neg hlt,List.append_nil]
   refine Nat.lt_of_lt_of_le (hornL_lt _) (Nat.pow_le_pow_right (by omega) ?_)
   rw [List.length_drop,List.length_take]; omega
 ·refine Nat.lt_of_lt_of_le (hornL_lt _) (Nat.pow_le_pow_right (by omega) ?_)
  rw [List.length_drop,List.length_take]; omega
theorem J117.next {bs:List UInt8} {a:Nat} {x:N117} {i:Nat} (h:J117 bs a x) (hi:x.i = i):J117 bs a ⟨x.e,x.n * 128 + atB bs (a + i) % 128,(i:Int) - 1⟩:=by
 obtain ⟨he,hl,hb,hg,h0,h1,hn⟩:=h
 refine ⟨he,hl,hb,hg,by simp only []; omega,by simp only []; omega,?_⟩
 simp only []
 unfold fewN at he
 rw [hi] at hn
 rw [hn,show ((i:Int) + 1).toNat = i + 1 by omega,show ((i:Int) - 1 + 1).toNat = i by omega]
 have hlen:i < ((bs.drop a).take (x.e + 1)).length:=by rw [List.length_take,List.length_drop]; omega
 rw [List.drop_eq_getElem_cons hlen,hornL]
 congr 2
 rw [List.getElem_take,← atB_drop,List.getD_eq_getElem?_getD,List.getElem?_eq_getElem (by rw [List.length_drop]; omega)]
 rfl
section
variable {bs : List UInt8} {a : Nat}
end
end Go.Abs
namespace Go.Abs
open Go.Proofs
def s49:Spec:=fun args=>match args with
 | [.sl a xs .no,.sl b ys .no]=>match unL unS xs,unL unS ys with
  | some l,some k=>if a = 1∧b = 1∧l.length≤2000000 then some (.bool (decide (l = k)),[]) else none
  | _,_=>none
 | _=>none
def s22:Spec:=fun args=>match args with
 | [.sl a xs .no,.sl b ys .no]=>match unL unLb xs,unL unLb ys with
  | some l,some k=>if a = 3∧b = 3∧l.length≤2000000 then some (.bool (decide (l = k)),[]) else none
  | _,_=>none
 | _=>none
def s13:Spec:=fun args=>match args with
 | [a,b]=>match unRqN a,unRqN b with
  | some x,some y=>if x.feats.length≤2000000∧x.labels.length≤2000000 then some (.bool (decide (x = y)),[]) else none
  | _,_=>none
 | _=>none
def sameA (sz:Nat) (xs ys:List AV) (n:Nat) (I:Nat→Prop):Anns:=⟨fun q=>if q = 4 then some { α:=Nat,slots:=[0,1,5],nb:=0,vals:=fun i=>[.sl sz xs .no,.sl sz ys .no,.int .i64 i],sS:=fun _=>⟨[],[]⟩,I:=I,μ:=fun i=>n - i } else none,nA⟩
def a49 (l k:List (List UInt8)):Anns:=sameA 1 (strsL l) (strsL k) l.length fun i=>l.length = k.length∧i≤l.length∧l.take i = k.take i
def a22 (l k:List Lb):Anns:=sameA 3 (lbsL l) (lbsL k) l.length fun i=>l.length = k.length∧i≤l.length∧l.take i = k.take i
def XS3:Shapes:=fun f=>match f with
 | 10 | 13 | 16 | 22 | 24 | 30 | 33 | 49=>some shB
 | 14 | 15 | 54=>some shS
 | _=>none
def s15:Spec:=fun args=>match args with
 | [a]=>match unRqN a with
  | some x=>if keysOk x.labels = true then some (.str (fmtL x),[]) else none
  | none=>none
 | _=>none
/-! Decimal -/
def s54:Spec:=fun args=>match args with
 | [.int .i64 n]=>if tickB n = true then some (.str (Lib.itoa n),[]) else none
 | _=>none
structure D54 where
 n:Nat
 s:List UInt8
def preD (n:Nat):List UInt8:=if n < 10 then [] else Lib.decDigits (n / 10)
def a54 (N:Nat):Anns:=⟨fun k=>if k = 2 then some { α:=D54,slots:=[0,3],nb:=0,vals:=fun x=>[.int .i64 x.n,.str x.s],sS:=fun _=>⟨[],[]⟩,I:=fun x=>x.n≤N∧Lib.decDigits N = preD x.n ++ x.s,μ:=fun x=>x.n } else none,nA⟩
/-! Format -/
structure F15 where
 i:Nat
 t:List UInt8
def hd15 (r:Rq) (i:Nat):List UInt8:=[111,102,32] ++ r.entity ++ [32,116,97,107,101,32] ++ Lib.join (r.feats.take i) [44,32]
def a15 (r:Rq):Anns:=⟨fun k=>match k with
 | 5=>some { α:=F15,slots:=[1,3,4],nb:=1,vals:=fun x=>[.ptr 0 0,.str x.t,.int .i64 x.i],sS:=fun _=>stR r,I:=fun x=>1≤x.i∧x.i≤r.feats.length∧x.t = hd15 r x.i,μ:=fun x=>r.feats.length - x.i }
 | 10=>some { α:=F15,slots:=[1,3,5],nb:=1,vals:=fun x=>[.ptr 0 0,.str x.t,.int .i64 x.i],sS:=fun _=>stR r,I:=fun x=>x.i≤r.labels.length∧x.t = tO r x.i,μ:=fun x=>r.labels.length - x.i }
 | 1000015=>some { α:=F15,slots:=[1,3,5],nb:=1,vals:=fun x=>[.ptr 0 0,.str x.t,.int .i64 x.i],sS:=fun _=>stR r,I:=fun x=>x.i < r.labels.length∧x.t = tO r x.i ++ (if x.i = 0 then [32,97,116,32] else [44,32]),μ:=fun _=>0,rel:=fun T x=>ValsAre [T.getD 5 (.tup [])] [.int .i64 x.i] }
 | _=>none,nA⟩
def t15:List (FuncId × Spec):=[(33,s33),(54,s54)]
def t13:List (FuncId × Spec):=[(49,s49),(22,s22)]
theorem w49 (m:Int) (l k:List (List UInt8)) (r:AV):(pureW PQ (GQ m) XS3 (tbl []) (itbl []) (a49 l k) [] 49 [.sl 1 (strsL l) .no,.sl 1 (strsL k) .no] (r,[])) =
((((↑(strsL l).length:Int) != (↑(strsL k).length:Int)) = true→RetIs (AV.bool false) [] (r,[]))∧(((↑(strsL l).length:Int) != (↑(strsL k).length:Int)) = false→(∃ (y:Nat),ValsAre [AV.sl 1 (strsL l) Own.no,AV.sl 1 (strsL k) Own.no,I6 0] [AV.sl 1 (strsL l) Own.no,AV.sl 1 (strsL k) Own.no,I6 (↑y:Int)]∧StIs { boxes:=[],live:=[] } { boxes:=[],live:=[] }∧(l.length = k.length∧y≤l.length∧List.take y l = List.take y k)∧True)∧∀ (x:Nat),l.length = k.length∧x≤l.length∧List.take x l = List.take x k→(decide ((↑x:Int) < (↑(strsL l).length:Int)) = true→((0:Int)≤(↑x:Int)∧(↑x:Int) < (↑(strsL l).length:Int))∧∃ (s:List UInt8),takeAt PQ 9 (strsL l) (↑x:Int).toNat 0 = some (AV.str s)∧((0:Int)≤(↑x:Int)∧(↑x:Int) < (↑(strsL k).length:Int))∧∃ (s_1:List UInt8),takeAt PQ 9 (strsL k) (↑x:Int).toNat 0 = some (AV.str s_1)∧((!s == s_1) = true→RetIs (AV.bool false) [] (r,[]))∧((!s == s_1) = false→∃ (y:Nat),ValsAre [AV.sl 1 (strsL l) Own.no,AV.sl 1 (strsL k) Own.no,I6 (IntKind.i64.wrap ((↑x:Int) + (1:Int)))] [AV.sl 1 (strsL l) Own.no,AV.sl 1 (strsL k) Own.no,I6 (↑y:Int)]∧StIs { boxes:=[],live:=[] } { boxes:=[],live:=[] }∧(l.length = k.length∧y≤l.length∧List.take y l = List.take y k)∧l.length - y < l.length - x))∧(decide ((↑x:Int) < (↑(strsL l).length:Int)) = false→RetIs (AV.bool true) [] (r,[])))):=by kernel_rfl
theorem w22 (m:Int) (l k:List Lb) (r:AV):(pureW PQ (GQ m) XS3 (tbl []) (itbl []) (a22 l k) [] 22 [.sl 3 (lbsL l) .no,.sl 3 (lbsL k) .no] (r,[])) =
((((↑(lbsL l).length:Int) != (↑(lbsL k).length:Int)) = true→RetIs (AV.bool false) [] (r,[]))∧(((↑(lbsL l).length:Int) != (↑(lbsL k).length:Int)) = false→(∃ (y:Nat),ValsAre [AV.sl 3 (lbsL l) Own.no,AV.sl 3 (lbsL k) Own.no,I6 0] [AV.sl 3 (lbsL l) Own.no,AV.sl 3 (lbsL k) Own.no,I6 (↑y:Int)]∧StIs { boxes:=[],live:=[] } { boxes:=[],live:=[] }∧(l.length = k.length∧y≤l.length∧List.take y l = List.take y k)∧True)∧∀ (x:Nat),l.length = k.length∧x≤l.length∧List.take x l = List.take x k→(decide ((↑x:Int) < (↑(lbsL l).length:Int)) = true→((0:Int)≤(↑x:Int)∧(↑x:Int) < (↑(lbsL l).length:Int))∧∃ (s:List UInt8),∃ (n:Int),∃ (n_1:Int),takeAt PQ 65 (lbsL l) (↑x:Int).toNat 0 = some (AV.agg [AV.str s,I6 n,I6 n_1])∧((0:Int)≤(↑x:Int)∧(↑x:Int) < (↑(lbsL k).length:Int))∧∃ (s_1:List UInt8),∃ (n_2:Int),∃ (n_3:Int),takeAt PQ 65 (lbsL k) (↑x:Int).toNat 0 = some (AV.agg [AV.str s_1,I6 n_2,I6 n_3])∧((!(s == s_1 && (n == n_2 && (n_1 == n_3 && true)))) = true→RetIs (AV.bool false) [] (r,[]))∧((!(s == s_1 && (n == n_2 && (n_1 == n_3 && true)))) = false→∃ (y:Nat),ValsAre [AV.sl 3 (lbsL l) Own.no,AV.sl 3 (lbsL k) Own.no,I6 (IntKind.i64.wrap ((↑x:Int) + (1:Int)))] [AV.sl 3 (lbsL l) Own.no,AV.sl 3 (lbsL k) Own.no,I6 (↑y:Int)]∧StIs { boxes:=[],live:=[] } { boxes:=[],live:=[] }∧(l.length = k.length∧y≤l.length∧List.take y l = List.take y k)∧l.length - y < l.length - x))∧(decide ((↑x:Int) < (↑(lbsL l).length:Int)) = false→RetIs (AV.bool true) [] (r,[])))):=by kernel_rfl
theorem w13 (m:Int) (x y:Rq) (r:AV):(pureW PQ (GQ m) XS3 (tbl t13) (itbl []) nAn [] 13 [rqA x,rqA y] (r,[])) =
(∃ (b:Bool),CallIs (tbl [(49,s49),(22,s22)] 49 [AV.sl 1 (strsL x.feats) Own.no,AV.sl 1 (strsL y.feats) Own.no]) (AV.bool b) []∧(b = true→∃ (b:Bool),CallIs (tbl [(49,s49),(22,s22)] 22 [AV.sl 3 (lbsL x.labels) Own.no,AV.sl 3 (lbsL y.labels) Own.no]) (AV.bool b) []∧(b = true→((x.entity == y.entity) = true→((x.seed == y.seed) = true→((x.permille == y.permille) = true→RetIs (AV.bool true) [] (r,[]))∧((x.permille == y.permille) = false→RetIs (AV.bool false) [] (r,[])))∧((x.seed == y.seed) = false→RetIs (AV.bool false) [] (r,[])))∧((x.entity == y.entity) = false→RetIs (AV.bool false) [] (r,[])))∧(b = false→RetIs (AV.bool false) [] (r,[])))∧(b = false→∃ (b:Bool),CallIs (tbl [(49,s49),(22,s22)] 22 [AV.sl 3 (lbsL x.labels) Own.no,AV.sl 3 (lbsL y.labels) Own.no]) (AV.bool b) []∧(b = true→RetIs (AV.bool false) [] (r,[]))∧(b = false→RetIs (AV.bool false) [] (r,[])))):=by kernel_rfl
theorem w54 (m:Int) (N:Nat) (r:AV):(pureW PQ (GQ m) XS3 (tbl []) (itbl []) (a54 N) [] 54 [.int .i64 N] (r,[])) =
((10:Int) ≠ (0:Int)∧((1:Nat) = (1:Nat)∨[AV.int IntKind.u8 (IntKind.u8.wrap (IntKind.i64.wrap ((48:Int) + (↑N:Int).tmod (10:Int))))] = [])∧∃ (l:List UInt8),some [UInt8.ofNat (IntKind.u8.wrap (IntKind.i64.wrap ((48:Int) + (↑N:Int).tmod (10:Int)))).toNat] = some l∧(∃ (y:D54),ValsAre [I6 (↑N:Int),AV.str l] [I6 (↑y.n:Int),AV.str y.s]∧StIs { boxes:=[],live:=[] } { boxes:=[],live:=[] }∧(y.n≤N∧Lib.decDigits N = preD y.n ++ y.s)∧True)∧∀ (x:D54),x.n≤N∧Lib.decDigits N = preD x.n ++ x.s→(decide ((↑x.n:Int) > (9:Int)) = true→(10:Int) ≠ (0:Int)∧(10:Int) ≠ (0:Int)∧((1:Nat) = (1:Nat)∨[AV.int IntKind.u8 (IntKind.u8.wrap (IntKind.i64.wrap ((48:Int) + (IntKind.i64.wrap ((↑x.n:Int).tdiv (10:Int))).tmod (10:Int))))] = [])∧∃ (l:List UInt8),some [UInt8.ofNat (IntKind.u8.wrap (IntKind.i64.wrap ((48:Int) + (IntKind.i64.wrap ((↑x.n:Int).tdiv (10:Int))).tmod (10:Int)))).toNat] = some l∧l.length + x.s.length≤(9223372036854775807:Nat)∧∃ (y:D54),ValsAre [I6 (IntKind.i64.wrap ((↑x.n:Int).tdiv (10:Int))),AV.str (l ++ x.s)] [I6 (↑y.n:Int),AV.str y.s]∧StIs { boxes:=[],live:=[] } { boxes:=[],live:=[] }∧(y.n≤N∧Lib.decDigits N = preD y.n ++ y.s)∧y.n < x.n)∧(decide ((↑x.n:Int) > (9:Int)) = false→RetIs (AV.str x.s) [] (r,[]))):=by kernel_rfl
abbrev w15c3 (x:Rq):List AV:=[AV.str x.entity,AV.sl 1 (strsL x.feats) Own.no,AV.sl 3 (lbsL x.labels) Own.no,AV.int IntKind.i64 x.seed,AV.int IntKind.i64 x.permille]
abbrev w15c1 (x:Rq):St:={ boxes:=[some (w15c3 x)],live:=[] }
abbrev w15c2 (y:F15):List AV:=[AV.ptr 0 0,AV.str y.t,AV.int IntKind.i64 (↑y.i:Int)]
abbrev w15c4 (y:F15) (x:Rq):Prop:=y.i < x.labels.length∧y.t = tO x y.i ++ if y.i = (0:Nat) then [(32:UInt8),(97:UInt8),(116:UInt8),(32:UInt8)] else [(44:UInt8),(32:UInt8)]
abbrev w15c5 (x_3:F15) (x:Rq):Prop:=(0:Int)≤(↑x_3.i:Int)∧(↑x_3.i:Int) < (↑(lbsL x.labels).length:Int)
theorem w15 (m:Int) (x:Rq) (r:AV):(pureW PQ (GQ m) XS3 (tbl t15) (itbl []) (a15 x) [] 15 [rqA x] (r,[])) =
(∃ (b:Bool),CallIs (tbl [(33,s33),(54,s54)] 33 [AV.agg (w15c3 x)]) (AV.bool b) []∧(b = true→(3:Nat) + x.entity.length≤(9223372036854775807:Nat)∧([(111:UInt8),(102:UInt8),(32:UInt8)] ++ x.entity).length + (6:Nat)≤(9223372036854775807:Nat)∧((0:Int)≤(0:Int)∧(0:Int) < (↑(strsL x.feats).length:Int))∧∃ (s:List UInt8),takeAt PQ 9 (strsL x.feats) 0 0 = some (AV.str s)∧([(111:UInt8),(102:UInt8),(32:UInt8)] ++ x.entity ++ [32,116,97,107,101,32]).length + s.length≤(9223372036854775807:Nat)∧(∃ (y:F15),ValsAre [AV.ptr 0 0,AV.str ([(111:UInt8),(102:UInt8),(32:UInt8)] ++ x.entity ++ [32,116,97,107,101,32] ++ s),I6 1] (w15c2 y)∧StIs (w15c1 x) (w15c1 x)∧((1:Nat)≤y.i∧y.i≤x.feats.length∧y.t = hd15 x y.i)∧True)∧∀ (x_1:F15),(1:Nat)≤x_1.i∧x_1.i≤x.feats.length∧x_1.t = hd15 x x_1.i→(decide ((↑x_1.i:Int) < (↑(strsL x.feats).length:Int)) = true→x_1.t.length + (2:Nat)≤(9223372036854775807:Nat)∧((0:Int)≤(↑x_1.i:Int)∧(↑x_1.i:Int) < (↑(strsL x.feats).length:Int))∧∃ (s:List UInt8),takeAt PQ 9 (strsL x.feats) (↑x_1.i:Int).toNat 0 = some (AV.str s)∧(x_1.t ++ [44,32]).length + s.length≤(9223372036854775807:Nat)∧∃ (y:F15),ValsAre [AV.ptr 0 0,AV.str (x_1.t ++ [44,32] ++ s),I6 (IntKind.i64.wrap ((↑x_1.i:Int) + (1:Int)))] (w15c2 y)∧StIs (w15c1 x) (w15c1 x)∧((1:Nat)≤y.i∧y.i≤x.feats.length∧y.t = hd15 x y.i)∧x.feats.length - y.i < x.feats.length - x_1.i)∧(decide ((↑x_1.i:Int) < (↑(strsL x.feats).length:Int)) = false→x_1.t.length + (6:Nat)≤(9223372036854775807:Nat)∧∃ (s:List UInt8),CallIs (tbl [(33,s33),(54,s54)] 54 [I6 x.seed]) (AV.str s) []∧(x_1.t ++ [32,115,101,101,100,32]).length + s.length≤(9223372036854775807:Nat)∧(x_1.t ++ [32,115,101,101,100,32] ++ s).length + (6:Nat)≤(9223372036854775807:Nat)∧∃ (s_1:List UInt8),CallIs (tbl [(33,s33),(54,s54)] 54 [I6 x.permille]) (AV.str s_1) []∧(x_1.t ++ [32,115,101,101,100,32] ++ s ++ [32,107,101,101,112,32]).length + s_1.length≤(9223372036854775807:Nat)∧(∃ (y:F15),ValsAre [AV.ptr 0 0,AV.str (x_1.t ++ [32,115,101,101,100,32] ++ s ++ [32,107,101,101,112,32] ++ s_1),I6 0] (w15c2 y)∧StIs (w15c1 x) (w15c1 x)∧(y.i≤x.labels.length∧y.t = tO x y.i)∧True)∧∀ (x_2:F15),x_2.i≤x.labels.length∧x_2.t = tO x x_2.i→(decide ((↑x_2.i:Int) < (↑(lbsL x.labels).length:Int)) = true→((((↑x_2.i:Int) == (0:Int)) = true→x_2.t.length + (4:Nat)≤(9223372036854775807:Nat)∧∃ (y:F15),ValsAre [AV.ptr 0 0,AV.str (x_2.t ++ [32,97,116,32]),I6 (↑x_2.i:Int)] (w15c2 y)∧StIs (w15c1 x) (w15c1 x)∧(w15c4 y x)∧ValsAre [I6 (↑x_2.i:Int)] [I6 (↑y.i:Int)])∧(((↑x_2.i:Int) == (0:Int)) = false→x_2.t.length + (2:Nat)≤(9223372036854775807:Nat)∧∃ (y:F15),ValsAre [AV.ptr 0 0,AV.str (x_2.t ++ [44,32]),I6 (↑x_2.i:Int)] (w15c2 y)∧StIs (w15c1 x) (w15c1 x)∧(w15c4 y x)∧ValsAre [I6 (↑x_2.i:Int)] [I6 (↑y.i:Int)]))∧∀ (x_3:F15),(x_3.i < x.labels.length∧x_3.t = tO x x_3.i ++ if x_3.i = (0:Nat) then [(32:UInt8),(97:UInt8),(116:UInt8),(32:UInt8)] else [(44:UInt8),(32:UInt8)])→ValsAre [I6 (↑x_2.i:Int)] [I6 (↑x_3.i:Int)]→x_3.t.length + (1:Nat)≤(9223372036854775807:Nat)∧(w15c5 x_3 x)∧∃ (s:List UInt8),takeAt PQ 9 (lbsL x.labels) (↑x_3.i:Int).toNat 0 = some (AV.str s)∧(x_3.t ++ [34]).length + s.length≤(9223372036854775807:Nat)∧(x_3.t ++ [34] ++ s).length + (2:Nat)≤(9223372036854775807:Nat)∧(w15c5 x_3 x)∧∃ (n:Int),takeAt PQ 3 (lbsL x.labels) (↑x_3.i:Int).toNat 1 = some (I6 n)∧∃ (s_2:List UInt8),CallIs (tbl [(33,s33),(54,s54)] 54 [I6 n]) (AV.str s_2) []∧(x_3.t ++ [34] ++ s ++ [34,32]).length + s_2.length≤(9223372036854775807:Nat)∧(x_3.t ++ [34] ++ s ++ [34,32] ++ s_2).length + (1:Nat)≤(9223372036854775807:Nat)∧(w15c5 x_3 x)∧∃ (n:Int),takeAt PQ 3 (lbsL x.labels) (↑x_3.i:Int).toNat 2 = some (I6 n)∧∃ (s_3:List UInt8),CallIs (tbl [(33,s33),(54,s54)] 54 [I6 n]) (AV.str s_3) []∧(x_3.t ++ [34] ++ s ++ [34,32] ++ s_2 ++ [32]).length + s_3.length≤(9223372036854775807:Nat)∧∃ (y:F15),ValsAre [AV.ptr 0 0,AV.str (x_3.t ++ [34] ++ s ++ [34,32] ++ s_2 ++ [32] ++ s_3),I6 (IntKind.i64.wrap ((↑x_3.i:Int) + (1:Int)))] (w15c2 y)∧StIs (w15c1 x) (w15c1 x)∧(y.i≤x.labels.length∧y.t = tO x y.i)∧x.labels.length - y.i < x.labels.length - x_2.i)∧(decide ((↑x_2.i:Int) < (↑(lbsL x.labels).length:Int)) = false→RetIs (AV.str x_2.t) [] (r,[]))))∧(b = false→RetIs (AV.str []) [] (r,[]))):=by kernel_rfl
section
variable {α : Type} {l k : List α} {i : Nat}
theorem eqL_stop (hl:l.length = k.length) (hi:i < l.length) (h:l[i] ≠ k[i]'(by omega)):l ≠ k:=by
 rintro rfl; exact h rfl
theorem eqL_step (hl:l.length = k.length) (hi:i < l.length) (h:l.take i = k.take i) (he:l[i] = k[i]'(by omega)):l.take (i + 1) = k.take (i + 1):=by
 rw [List.take_succ_eq_append_getElem hi,List.take_succ_eq_append_getElem (by omega),h,he]
theorem eqL_end (hl:l.length = k.length) (hi:¬ i < l.length) (h:l.take i = k.take i):l = k:=by
 rwa [List.take_of_length_le (by omega),List.take_of_length_le (by omega)] at h
end
theorem p49 (m:Int) (l k:List (List UInt8)) (hl:l.length≤2000000):PureOk PQ (GQ m) XS3 (tbl []) (itbl []) (a49 l k) [] 49 [.sl 1 (strsL l) .no,.sl 1 (strsL k) .no] (.bool (decide (l = k)),[]):=by
  constructor
  rw [w49]; unfold I6
  have hn:∀ l:List (List UInt8),(strsL l).length = l.length:=fun l=>List.length_map _
  simp only [hn]
  refine ⟨fun h=>⟨?_⟩,fun h=>?_⟩
  · have h' : (l.length : Int) ≠ k.length := by simpa using h
    rw [decide_eq_false (by rintro rfl; exact h' rfl)]
  · have e : l.length = k.length := by have : (l.length : Int) = k.length := by simpa using h
                                       omega
    refine ⟨⟨0,⟨rfl⟩,⟨rfl⟩,⟨e,Nat.zero_le _,rfl⟩,trivial⟩,fun i hi=>⟨fun lt=>?_,fun ge=>⟨?_⟩⟩⟩
    · have lt := of_decide_eq_true lt
      have hil:i < l.length:=by omega
      refine ⟨⟨by omega,by omega⟩,_,by rw [Int.toNat_natCast]; exact take_str hil,⟨by omega,by omega⟩,_,by rw [Int.toNat_natCast]; exact take_str (by omega),fun h=>⟨?_⟩,fun h=>⟨i + 1,⟨by rw [wrapI (by omega)]⟩,⟨rfl⟩,⟨e,hil,eqL_step e hil hi.2.2 (by simpa using h)⟩,by omega⟩⟩
      rw [decide_eq_false (eqL_stop e hil (by simpa using h))]
    · have ge := of_decide_eq_false ge
      rw [decide_eq_true (eqL_end e (by omega) hi.2.2)]
theorem p22 (m:Int) (l k:List Lb) (hl:l.length≤2000000):PureOk PQ (GQ m) XS3 (tbl []) (itbl []) (a22 l k) [] 22 [.sl 3 (lbsL l) .no,.sl 3 (lbsL k) .no] (.bool (decide (l = k)),[]):=by
  constructor
  rw [w22]; unfold I6
  have hn:∀ l:List Lb,(lbsL l).length = l.length:=fun l=>List.length_map _
  simp only [hn]
  refine ⟨fun h=>⟨?_⟩,fun h=>?_⟩
  · have h' : (l.length : Int) ≠ k.length := by simpa using h
    rw [decide_eq_false (by rintro rfl; exact h' rfl)]
  · have e : l.length = k.length := by have : (l.length : Int) = k.length := by simpa using h
                                       omega
    refine ⟨⟨0,⟨rfl⟩,⟨rfl⟩,⟨e,Nat.zero_le _,rfl⟩,trivial⟩,fun i hi=>⟨fun lt=>?_,fun ge=>⟨?_⟩⟩⟩
    · have lt := of_decide_eq_true lt
      have hil:i < l.length:=by omega
      have hik:i < k.length:=by omega
      refine ⟨⟨by omega,by omega⟩,_,_,_,by rw [Int.toNat_natCast]; exact take_lb hil,⟨by omega,by omega⟩,_,_,_,by rw [Int.toNat_natCast]; exact take_lb hik,fun h=>⟨?_⟩,fun h=>⟨i + 1,⟨by rw [wrapI (by omega)]⟩,⟨rfl⟩,⟨e,hil,eqL_step e hil hi.2.2 ?_⟩,by omega⟩⟩
      · rw [decide_eq_false (eqL_stop e hil ?_)]
        intro h'
        rw [h'] at h
        simp at h
      · have h' : l[i].key = k[i].key ∧ l[i].event = k[i].event ∧ l[i].know = k[i].know := by simpa using h
        have:∀ a b:Lb,a.key = b.key→a.event = b.event→a.know = b.know→a = b:=by rintro ⟨⟩ ⟨⟩ rfl rfl rfl; rfl
        exact this _ _ h'.1 h'.2.1 h'.2.2
    · have ge := of_decide_eq_false ge
      rw [decide_eq_true (eqL_end e (by omega) hi.2.2)]
theorem o49 (m:Int):SpecOk PQ (GQ m) 49 s49:=spec_of (X:=XS3) (m:=[]) mixedQ tbl_nil itbl_nil fun args r h=>by
 unfold s49 at h
 split at h
 case h_2=>cases h
 split at h
 case h_2=>cases h
 rename_i h1 h2
 split at h
 case isFalse=>cases h
 rename_i hc
 injection h with h; subst h
 rw [unL_inv unS_inv h1,unL_inv unS_inv h2,hc.1,hc.2.1]
 exact ⟨_,p49 m _ _ hc.2.2⟩
theorem o22 (m:Int):SpecOk PQ (GQ m) 22 s22:=spec_of (X:=XS3) (m:=[]) mixedQ tbl_nil itbl_nil fun args r h=>by
 unfold s22 at h
 split at h
 case h_2=>cases h
 split at h
 case h_2=>cases h
 rename_i h1 h2
 split at h
 case isFalse=>cases h
 rename_i hc
 injection h with h; subst h
 rw [unL_inv unLb_inv h1,unL_inv unLb_inv h2,hc.1,hc.2.1]
 exact ⟨_,p22 m _ _ hc.2.2⟩
theorem run49 {l k:List (List UInt8)} (h:l.length≤2000000):s49 [.sl 1 (strsL l) .no,.sl 1 (strsL k) .no] = some (.bool (decide (l = k)),[]):=by
 simp only [s49,unL_map unS_ok]
 rw [if_pos ⟨trivial,trivial,h⟩]
theorem run22 {l k:List Lb} (h:l.length≤2000000):s22 [.sl 3 (lbsL l) .no,.sl 3 (lbsL k) .no] = some (.bool (decide (l = k)),[]):=by
 simp only [s22,unL_map unLb_ok]
 rw [if_pos ⟨trivial,trivial,h⟩]
theorem p13 (m:Int) (x y:Rq) (h1:x.feats.length≤2000000) (h2:x.labels.length≤2000000):PureOk PQ (GQ m) XS3 (tbl t13) (itbl []) nAn [] 13 [rqA x,rqA y] (.bool (decide (x = y)),[]):=by
 constructor
 rw [w13]
 obtain ⟨en,fs,ls,sd,pm⟩:=x
 obtain ⟨en',fs',ls',sd',pm'⟩:=y
 have no:¬ (fs = fs'∧ls = ls'∧en = en'∧sd = sd'∧pm = pm')→∀ b:Bool,b = false→RetIs (.bool b) [] (.bool (decide ((⟨en,fs,ls,sd,pm⟩:Rq) = ⟨en',fs',ls',sd',pm'⟩)),[]):=fun h b hb=>by
  subst hb
  refine ⟨?_⟩
  rw [decide_eq_false]
  intro e
  injection e with e1 e2 e3 e4 e5
  exact h ⟨e2,e3,e1,e4,e5⟩
 refine ⟨_,⟨run49 h1⟩,fun b1=>⟨_,⟨run22 h2⟩,fun b2=>⟨fun b3=>⟨fun b4=>⟨fun b5=>⟨?_⟩,fun b5=>no (fun e=>by simp [e.2.2.2.2] at b5) _ rfl⟩,fun b4=>no (fun e=>by simp [e.2.2.2.1] at b4) _ rfl⟩,fun b3=>no (fun e=>by simp [e.2.2.1] at b3) _ rfl⟩,fun b2=>no (fun e=>of_decide_eq_false b2 e.2.1) _ rfl⟩,fun b1=>⟨_,⟨run22 h2⟩,fun b2=>no (fun e=>of_decide_eq_false b1 e.1) _ rfl,fun b2=>no (fun e=>of_decide_eq_false b1 e.1) _ rfl⟩⟩
 have e1:fs = fs':=of_decide_eq_true b1
 have e2:ls = ls':=of_decide_eq_true b2
 have e3:en = en':=eq_of_beq b3
 have e4:sd = sd':=eq_of_beq b4
 have e5:pm = pm':=eq_of_beq b5
 subst e1; subst e2; subst e3; subst e4; subst e5
 rw [decide_eq_true rfl]
theorem o13 (m:Int):SpecOk PQ (GQ m) 13 s13:=spec_of (X:=XS3) (m:=[]) mixedQ (tbl_cons (o49 m) (tbl_cons (o22 m) tbl_nil)) itbl_nil fun args r h=>by
 unfold s13 at h
 split at h
 case h_2=>cases h
 split at h
 case h_2=>cases h
 rename_i h1 h2
 split at h
 case isFalse=>cases h
 rename_i hc
 injection h with h; subst h
 rw [unRqN_inv _ _ h1,unRqN_inv _ _ h2]
 exact ⟨_,p13 m _ _ hc.1 hc.2⟩
theorem run13 {x y:Rq} (h1:x.feats.length≤2000000) (h2:x.labels.length≤2000000):s13 [rqA x,rqA y] = some (.bool (decide (x = y)),[]):=by
 simp only [s13,unRqN_ok]
 rw [if_pos ⟨h1,h2⟩]
/-! Decimal -/
theorem dig_byte (n:Nat):UInt8.ofNat (IntKind.u8.wrap (IntKind.i64.wrap (48 + (n:Int).tmod 10))).toNat = UInt8.ofNat (48 + n % 10):=by
 have h1:(n:Int).tmod 10 = ((n % 10:Nat):Int):=by rw [Int.tmod_eq_emod_of_nonneg (by omega)]; omega
 have h2:IntKind.i64.wrap (48 + ((n % 10:Nat):Int)) = ((48 + n % 10:Nat):Int):=by
  simp only [IntKind.wrap,IntKind.bits,IntKind.signed]
  simp
  omega
 have h3:IntKind.u8.wrap ((48 + n % 10:Nat):Int) = ((48 + n % 10:Nat):Int):=by rw [wrapu8]; omega
 rw [h1,h2,h3,Int.toNat_natCast]
theorem div10 {n:Nat} (h:n≤1099511627776):IntKind.i64.wrap ((n:Int).tdiv 10) = ((n / 10:Nat):Int):=by
 rw [Int.tdiv_eq_ediv_of_nonneg (by omega),wrapi64]; omega
theorem preD_step (n:Nat):Lib.decDigits n = preD n ++ [UInt8.ofNat (48 + n % 10)]:=by
 unfold preD
 by_cases h:n < 10
 ·rw [if_pos h,Lib.decDigits,dif_pos h,show n % 10 = n by omega]; rfl
 ·rw [if_neg h]
  conv=>lhs; rw [Lib.decDigits,dif_neg h]
theorem preD_big {n:Nat} (h:9 < n):preD n = preD (n / 10) ++ [UInt8.ofNat (48 + n / 10 % 10)]:=by
 have:preD n = Lib.decDigits (n / 10):=by unfold preD; rw [if_neg (by omega)]
 rw [this]; exact preD_step _
theorem dd_len {N:Nat} (h:N≤1099511627776):(Lib.decDigits N).length≤21:=by
 have:=Lib.itoa_length_le (N:Int) (by omega) (by omega)
 rwa [Lib.itoa_nonneg] at this
theorem p54 (m:Int) (N:Nat) (h:N≤1099511627776):PureOk PQ (GQ m) XS3 (tbl []) (itbl []) (a54 N) [] 54 [.int .i64 N] (.str (Lib.decDigits N),[]):=by
 constructor
 rw [w54]; unfold I6
 have hl:=dd_len h
 refine ⟨by decide,.inl rfl,_,rfl,⟨⟨N,[UInt8.ofNat (48 + N % 10)]⟩,⟨by rw [dig_byte]⟩,⟨rfl⟩,⟨Nat.le_refl _,preD_step N⟩,trivial⟩,?_⟩
 rintro ⟨n,s⟩ ⟨h1,h2⟩
 dsimp only at h1 h2 ⊢
 have hs:s.length≤21:=by
  rw [h2,List.length_append] at hl; omega
 rw [div10 (by omega)]
 refine ⟨fun lt=>⟨by decide,by decide,.inl rfl,_,rfl,by simp only [List.length_cons,List.length_nil]; omega,⟨n / 10,[UInt8.ofNat (48 + n / 10 % 10)] ++ s⟩,⟨by rw [dig_byte]⟩,⟨rfl⟩,⟨by show n / 10≤N; omega,?_⟩,?_⟩,fun ge=>⟨?_⟩⟩
 ·have lt:=of_decide_eq_true lt
  rw [h2,preD_big (by omega),List.append_assoc]
 ·have lt:=of_decide_eq_true lt
  show n / 10 < n; omega
 ·have ge:=of_decide_eq_false ge
  have:preD n = []:=by unfold preD; rw [if_pos (by omega)]
  rw [h2,this]; rfl
theorem tick_iff {n:Int}:tickB n = true ↔ 0≤n∧n≤1099511627776:=by simp [tickB]
theorem o54 (m:Int):SpecOk PQ (GQ m) 54 s54:=spec_of (X:=XS3) (m:=[]) mixedQ tbl_nil itbl_nil fun args r h=>by
 unfold s54 at h
 split at h
 case h_2=>cases h
 rename_i n
 split at h
 case isFalse=>cases h
 rename_i hc
 injection h with h; subst h
 obtain ⟨h1,h2⟩:=tick_iff.1 hc
 obtain ⟨N,rfl⟩:∃ N:Nat,n = N:=⟨n.toNat,by omega⟩
 rw [Lib.itoa_nonneg]
 exact ⟨_,p54 m N (by omega)⟩
theorem run54 {n:Int} (h:tickB n = true):s54 [.int .i64 n] = some (.str (Lib.itoa n),[]):=by
 show (if _ then _ else _) = _
 rw [if_pos h]
/-! Format -/
theorem takeK {l:List Lb} {i:Nat} (h:i < l.length):takeAt PQ 9 (lbsL l) i 0 = some (.str l[i].key):=by
 unfold takeAt
 rw [List.getElem?_map,List.getElem?_eq_getElem h]
 simp only [Option.map_some]
 generalize l[i] = x
 kernel_rfl
theorem takeE {l:List Lb} {i:Nat} (h:i < l.length):takeAt PQ 3 (lbsL l) i 1 = some (.int .i64 l[i].event):=by
 unfold takeAt
 rw [List.getElem?_map,List.getElem?_eq_getElem h]
 simp only [Option.map_some]
 generalize l[i] = x
 kernel_rfl
theorem takeN {l:List Lb} {i:Nat} (h:i < l.length):takeAt PQ 3 (lbsL l) i 2 = some (.int .i64 l[i].know):=by
 unfold takeAt
 rw [List.getElem?_map,List.getElem?_eq_getElem h]
 simp only [Option.map_some]
 generalize l[i] = x
 kernel_rfl
theorem join_snoc (sep x:List UInt8):∀ l:List (List UInt8),l ≠ []→Lib.join (l ++ [x]) sep = Lib.join l sep ++ sep ++ x
 | [],h=>absurd rfl h
 | [a],_=>by simp [Lib.join]
 | a :: b :: l,_=>by
  have:=join_snoc sep x (b :: l) (by simp)
  rw [List.cons_append,List.cons_append,join_cons2,← List.cons_append,this,join_cons2]
  simp only [List.append_assoc]
theorem hd15_len {r:Rq} (h:FmtIn r) (i:Nat):(hd15 r i).length≤1000:=by
 have h1:=join_len [44,32] (r.feats.take i) fun f hf=>h.lf f (List.mem_of_mem_take hf)
 have h2:=h.en
 have h3:=h.nf
 have h4:(r.feats.take i).length≤8:=by simp; omega
 simp only [hd15,List.length_append,List.length_cons,List.length_nil] at h1 ⊢
 omega
theorem hd15_end (r:Rq):hd15 r r.feats.length = fmtHead r:=by
 unfold hd15 fmtHead
 rw [List.take_length]
theorem tickIn {r:Rq} (h:formB r = true):1≤r.feats.length∧tickB r.seed = true∧tickB r.permille = true∧∀ x ∈ r.labels,tickB x.event = true∧tickB x.know = true:=by
 simp only [formB,headOk,Bool.and_eq_true,decide_eq_true_eq,List.all_eq_true] at h
 refine ⟨by omega,h.1.1.1.1.2,tick_iff.2 ⟨by omega,by omega⟩,fun x hx=>?_⟩
 have:=h.2 x hx
 simp only [lbOk,Bool.and_eq_true] at this
 exact ⟨this.1.2,this.2⟩
theorem p15 (m:Int) (x:Rq) (hk:keysOk x.labels = true):PureOk PQ (GQ m) XS3 (tbl t15) (itbl []) (a15 x) [] 15 [rqA x] (.str (fmtL x),[]):=by
 constructor
 rw [w15]; unfold w15c5 w15c4 w15c2 w15c1 w15c3 I6
 have hn:∀ l:List (List UInt8),(strsL l).length = l.length:=fun l=>List.length_map _
 have hm:∀ l:List Lb,(lbsL l).length = l.length:=fun l=>List.length_map _
 simp only [hn,hm]
 refine ⟨_,⟨run33 hk⟩,fun b=>?_,fun b=>⟨by unfold fmtL; rw [b]; rfl⟩⟩
 have F:=fmt_in b
 obtain ⟨f1,t1,t2,t3⟩:=tickIn b
 have hen:=F.en
 have hl0:x.feats[0].length≤24:=F.lf _ (List.getElem_mem (by omega))
 have s1:=Lib.itoa_length_le x.seed F.sd.1 F.sd.2
 have s2:=Lib.itoa_length_le x.permille F.pm.1 F.pm.2
 have nf:=F.nf
 have nl:=F.nl
 have h00:0 < x.feats.length:=by omega
 refine ⟨by omega,by simp only [List.length_append,List.length_cons,List.length_nil]; omega,⟨by omega,by omega⟩,_,take_str h00,?_,⟨⟨1,hd15 x 1⟩,⟨?_⟩,⟨rfl⟩,⟨by show 1≤1; omega,f1,rfl⟩,trivial⟩,?_⟩
 ·simp only [List.length_append,List.length_cons,List.length_nil]; omega
 ·have:x.feats.take 1 = [x.feats[0]]:=by rw [List.take_succ_eq_append_getElem (by omega)]; rfl
  have e2:hd15 x 1 = ([111,102,32]:List UInt8) ++ x.entity ++ ([32,116,97,107,101,32]:List UInt8) ++ x.feats[0]:=by unfold hd15; rw [this]; simp [Lib.join]
  rw [e2]; rfl
 rintro ⟨i,t⟩ ⟨h1,h2,h3⟩
 have hhl:=hd15_len F i
 dsimp only at h1 h2 h3 hhl ⊢
 subst h3
 refine ⟨fun lt=>?_,fun ge=>?_⟩
 ·have lt:=of_decide_eq_true lt
  have hil:i < x.feats.length:=by omega
  have hli:x.feats[i].length≤24:=F.lf _ (List.getElem_mem hil)
  refine ⟨by omega,⟨by omega,by omega⟩,_,by rw [Int.toNat_natCast]; exact take_str hil,?_,⟨i + 1,hd15 x (i + 1)⟩,⟨?_⟩,⟨rfl⟩,⟨by show 1≤i + 1; omega,hil,rfl⟩,by show x.feats.length - (i + 1) < x.feats.length - i; omega⟩
  ·simp only [List.length_append,List.length_cons,List.length_nil]; omega
  rw [wrapI (by omega)]
  have:hd15 x (i + 1) = hd15 x i ++ [44,32] ++ x.feats[i]:=by
   unfold hd15
   rw [List.take_succ_eq_append_getElem hil,join_snoc _ _ _ (by intro e; have:=congrArg List.length e; rw [List.length_take,List.length_nil] at this; omega)]
   simp only [List.append_assoc]
  rw [this]
 ·have ge:=of_decide_eq_false ge
  obtain rfl:i = x.feats.length:=by omega
  refine ⟨by omega,_,⟨run54 t1⟩,by simp only [List.length_append,List.length_cons,List.length_nil]; omega,by simp only [List.length_append,List.length_cons,List.length_nil]; omega,_,⟨run54 t2⟩,by simp only [List.length_append,List.length_cons,List.length_nil]; omega,⟨⟨0,tO x 0⟩,⟨?_⟩,⟨rfl⟩,⟨Nat.zero_le _,rfl⟩,trivial⟩,?_⟩
  ·have:tO x 0 = hd15 x x.feats.length ++ [32,115,101,101,100,32] ++ Lib.itoa x.seed ++ [32,107,101,101,112,32] ++ Lib.itoa x.permille:=by
    unfold tO fmtMid
    rw [hd15_end]
    simp only [List.take_zero,fmtTail,List.append_nil,List.append_assoc]
   rw [this]; rfl
  rintro ⟨j,u⟩ ⟨k1,k0⟩
  have tl:=tO_len F j
  dsimp only at k1 k0 tl ⊢
  subst k0
  refine ⟨fun lt=>?_,fun ge=>?_⟩
  ·have lt:=of_decide_eq_true lt
   have hjl:j < x.labels.length:=by omega
   refine ⟨⟨fun h0=>⟨by omega,⟨j,_⟩,⟨rfl⟩,⟨rfl⟩,⟨hjl,?_⟩,⟨rfl⟩⟩,fun h0=>⟨by omega,⟨j,_⟩,⟨rfl⟩,⟨rfl⟩,⟨hjl,?_⟩,⟨rfl⟩⟩⟩,?_⟩
   ·have:j = 0:=by have:=eq_of_beq h0; omega
    show _ = tO x j ++ _
    rw [if_pos this]
   ·have:j ≠ 0:=by rintro rfl; simp at h0
    show _ = tO x j ++ _
    rw [if_neg this]
   rintro ⟨i,t⟩ ⟨k2,k3⟩ ⟨k4⟩
   have tl2:=tO_len F i
   have k3:t = tO x i ++ (if i = 0 then [32,97,116,32] else [44,32]):=k3
   dsimp only at k2 tl2 ⊢
   subst k3
   obtain ⟨c1,c2⟩:=t3 _ (List.getElem_mem k2)
   obtain ⟨kl,ke,kn⟩:=F.ll _ (List.getElem_mem k2)
   have s3:=Lib.itoa_length_le x.labels[i].event ke.1 ke.2
   have s4:=Lib.itoa_length_le x.labels[i].know kn.1 kn.2
   have hbf:(if i = 0 then [32,97,116,32] else [44,32]:List UInt8).length≤4:=by split <;> decide
   refine ⟨?_,⟨by omega,by omega⟩,_,by rw [Int.toNat_natCast]; exact takeK k2,?_,?_,⟨by omega,by omega⟩,_,by rw [Int.toNat_natCast]; exact takeE k2,_,⟨run54 c1⟩,?_,?_,⟨by omega,by omega⟩,_,by rw [Int.toNat_natCast]; exact takeN k2,_,⟨run54 c2⟩,?_,⟨i + 1,tO x (i + 1)⟩,⟨?_⟩,⟨rfl⟩,⟨k2,rfl⟩,?_⟩
   all_goals first
    | (simp only [List.length_append,List.length_cons,List.length_nil]; omega)
    | skip
   ·rw [wrapI (by omega),tO_succ k2]
    simp only [lbT,List.append_assoc]
   ·have k4:(j:Int) = i:=by simpa using k4
    show x.labels.length - (i + 1) < x.labels.length - j; omega
  ·have ge:=of_decide_eq_false ge
   have:j = x.labels.length:=by omega
   refine ⟨?_⟩
   unfold fmtL tO
   rw [b,this,List.take_length]; rfl
theorem o15 (m:Int):SpecOk PQ (GQ m) 15 s15:=spec_of (X:=XS3) (m:=[]) mixedQ (tbl_cons (o33 m) (tbl_cons (o54 m) tbl_nil)) itbl_nil fun args r h=>by
 unfold s15 at h
 split at h
 case h_2=>cases h
 split at h
 case h_2=>cases h
 rename_i h1
 split at h
 case isFalse=>cases h
 rename_i hc
 injection h with h; subst h
 rw [unRqN_inv _ _ h1]
 exact ⟨_,p15 m _ hc⟩
structure PRq where
 r:Rq
 a:Int
 c:Int
def prA (p:PRq):AV:=.tup [rqA p.r,.int .i64 p.a,.int .i64 p.c]
def shRq:Sh × Option TypeId:=(.tup [.agg [.str,.sl 1 .no,.sl 3 .no,.int .i64,.int .i64],.one (.int .i64),.one (.int .i64)],none)
def XT:Shapes:=fun f=>match f with
 | 11 | 12 | 28 | 29=>some shRq
 | 10 | 13 | 16 | 30=>some shB
 | 14 | 15=>some shS
 | 31 | 32=>some shLax
 | _=>none
end Go.Abs
namespace Go.Abs.Lx
open Go.Proofs
def lib8:List (FuncId × Spec):=[(161,sIndexByte),(163,sIndexByteString),(133,sContains)]
theorem lib8_ok (m:Int):CalleeOk PQ (GQ m) (tbl lib8):=by
 refine tbl_cons (o_indexByte (fn:=Tryz.f161) (by kernel_rfl) (by kernel_rfl) (by kernel_rfl) (by kernel_rfl) (by kernel_rfl)) (tbl_cons (o_indexByteString (fn:=Tryz.f163) (by kernel_rfl) (by kernel_rfl) (by kernel_rfl) (by kernel_rfl) (by kernel_rfl)) (tbl_cons ?_ tbl_nil))
 exact o_contains (goodQ (by kernel_rfl)) (g0:=0) (m:=m) rfl fun s sub m w hs hm=>Tryz.strings_Contains s sub m w hs hm
theorem spec_run {P:Program} {G:Glob} {R0:Callee} (hm:P.follows .mixedOrders = true) (h0:CalleeOk P G R0) {f:FuncId} {s:Spec} (h:∀ args r,s args = some r→∃ n,(evs P G R0 (fun _=>[]) n).1 f args = some r):SpecOk P G f s:=by
 intro g args r lv hr
 simp only at hr
 split at hr
 ·rename_i e
  subst e
  obtain ⟨n,hn⟩:=h args _ hr
  exact (evs_ok hm h0 (fun _=>[]) n).1 g args r lv hn
 ·cases hr
def cls (c:Nat):Nat:=
 if c = 9∨c = 10∨c = 13∨c = 32 then 1 else
 if 97≤c∧c≤122 then 2 else
 if 48≤c∧c≤57 then 3 else
 if c = 95 then 4 else
 if c = 34 then 5 else
 if c = 35 then 6 else
 if c ∈ [123,125,40,41,91,93,44,58,59,61,60,43,45,42,47,94,64] then 7 else
 if c = 33 then 8 else 0
def classesA:AV:=.agg ((List.range 256).map fun c=>.int .u8 (cls c))
set_option maxRecDepth 100000 in
theorem run84 (m:Int):(evs PQ (GQ m) (tbl lib8) (fun _=>[]) 60).1 84 [] = some (classesA,[]):=by kernel_rfl
end Go.Abs.Lx
namespace Go.Abs.Lx
open Go.Proofs
def shB:Sh × Option TypeId:=(.val (.one .bool),none)
def shI:Sh × Option TypeId:=(.val (.one (.int .i64)),none)
def X1:Shapes:=fun f=>if f = 160∨f = 140 then some shB else none
def letterB (c:UInt8):Bool:=decide (97≤c.toNat∧c.toNat≤122)
def digitB (c:UInt8):Bool:=decide (48≤c.toNat∧c.toNat≤57)
def s160:Spec:=fun args=>match args with | [.int .u8 n]=>some (.bool (decide (97≤n∧n≤122)),[]) | _=>none
def s140:Spec:=fun args=>match args with | [.int .u8 n]=>some (.bool (decide (48≤n∧n≤57)),[]) | _=>none
def innerB (c:UInt8):Bool:=letterB c || digitB c || c == 95
def wl:List UInt8→Nat
 | []=>0
 | c :: t=>if letterB c then 1 + (t.takeWhile innerB).length else 0
def nA:Nat→Option Ann:=fun _=>none
def a123 (bs:List UInt8) (i:Nat):Anns:=⟨fun k=>if k = 4 then some { α:=Int,slots:=[0,1,5],nb:=0,vals:=fun n=>[bytesA bs,.int .i64 i,.int .i64 n],sS:=fun _=>⟨[],[]⟩,I:=fun n=>∃ k:Nat,n = k∧1≤k∧k≤wl (bs.drop i),μ:=fun n=>(bs.length - n).toNat } else none,nA⟩
def t33:List (FuncId × Spec):=[(160,s160),(140,s140)]
end Go.Abs.Lx
namespace Go.Abs.Lx
open Go.Proofs
theorem w160 (m:Int) (n:Int):(pureW PQ (GQ m) X1 (tbl []) (itbl []) ⟨nA,nA⟩ [] 160 [.int .u8 n] (.bool (decide (97≤n∧n≤122)),[])) =
((decide (n ≥ (97:Int)) = true→(decide (n≤(122:Int)) = true→RetIs (AV.bool true) [] (AV.bool (decide ((97:Int)≤n∧n≤(122:Int))),[]))∧(decide (n≤(122:Int)) = false→RetIs (AV.bool false) [] (AV.bool (decide ((97:Int)≤n∧n≤(122:Int))),[])))∧(decide (n ≥ (97:Int)) = false→RetIs (AV.bool false) [] (AV.bool (decide ((97:Int)≤n∧n≤(122:Int))),[]))):=by kernel_rfl
abbrev w123c3 (bs:List UInt8) (i:Nat) (y:Int):List AV:=[AV.sl 1 (bytesL bs) Own.no,AV.int IntKind.i64 (↑i:Int),AV.int IntKind.i64 y]
abbrev w123c1 (b:Bool) (bs:List UInt8) (i:Nat) (x:Int):Prop:=b = true→∃ (y:Int),ValsAre [AV.sl 1 (bytesL bs) Own.no,AV.int IntKind.i64 (↑i:Int),AV.int IntKind.i64 (IntKind.i64.wrap (x + (1:Int)))] (w123c3 bs i y)∧StIs { boxes:=[],live:=[] } { boxes:=[],live:=[] }∧(∃ (k:Nat),y = (↑k:Int)∧(1:Nat)≤k∧k≤wl (List.drop i bs))∧((↑bs.length:Int) - y).toNat < ((↑bs.length:Int) - x).toNat
abbrev w123c2 (i:Nat) (x:Int) (bs:List UInt8):Prop:=(0:Int)≤IntKind.i64.wrap ((↑i:Int) + x)∧IntKind.i64.wrap ((↑i:Int) + x) < (↑(bytesL bs).length:Int)
theorem w123 (m:Int) (bs:List UInt8) (i:Nat):(pureW PQ (GQ m) X1 (tbl t33) (itbl []) (a123 bs i) [] 123 [bytesA bs,.int .i64 i] (.int .i64 (wl (bs.drop i)),[])) =
(((0:Int)≤(↑i:Int)∧(↑i:Int) < (↑(bytesL bs).length:Int))∧∃ (n:Int),takeAt PQ 5 (bytesL bs) (↑i:Int).toNat 0 = some (AV.int IntKind.u8 n)∧∃ (b:Bool),CallIs (some (AV.bool (decide ((97:Int)≤n∧n≤(122:Int))),[])) (AV.bool b) []∧(b = true→(∃ (y:Int),ValsAre [AV.sl 1 (bytesL bs) Own.no,I6 (↑i:Int),I6 1] (w123c3 bs i y)∧StIs { boxes:=[],live:=[] } { boxes:=[],live:=[] }∧(∃ (k:Nat),y = (↑k:Int)∧(1:Nat)≤k∧k≤wl (List.drop i bs))∧True)∧∀ (x:Int),(∃ (k:Nat),x = (↑k:Int)∧(1:Nat)≤k∧k≤wl (List.drop i bs))→(decide (IntKind.i64.wrap ((↑i:Int) + x) < (↑(bytesL bs).length:Int)) = true→(w123c2 i x bs)∧∃ (n:Int),takeAt PQ 5 (bytesL bs) (IntKind.i64.wrap ((↑i:Int) + x)).toNat 0 = some (AV.int IntKind.u8 n)∧∃ (b:Bool),CallIs (some (AV.bool (decide ((97:Int)≤n∧n≤(122:Int))),[])) (AV.bool b) []∧(w123c1 b bs i x)∧(b = false→(w123c2 i x bs)∧∃ (n:Int),takeAt PQ 5 (bytesL bs) (IntKind.i64.wrap ((↑i:Int) + x)).toNat 0 = some (AV.int IntKind.u8 n)∧∃ (b:Bool),CallIs (some (AV.bool (decide ((48:Int)≤n∧n≤(57:Int))),[])) (AV.bool b) []∧(w123c1 b bs i x)∧(b = false→(w123c2 i x bs)∧∃ (n:Int),takeAt PQ 5 (bytesL bs) (IntKind.i64.wrap ((↑i:Int) + x)).toNat 0 = some (AV.int IntKind.u8 n)∧((n == (95:Int)) = true→∃ (y:Int),ValsAre [AV.sl 1 (bytesL bs) Own.no,I6 (↑i:Int),I6 (IntKind.i64.wrap (x + (1:Int)))] (w123c3 bs i y)∧StIs { boxes:=[],live:=[] } { boxes:=[],live:=[] }∧(∃ (k:Nat),y = (↑k:Int)∧(1:Nat)≤k∧k≤wl (List.drop i bs))∧((↑bs.length:Int) - y).toNat < ((↑bs.length:Int) - x).toNat)∧((n == (95:Int)) = false→RetIs (I6 x) [] (I6 (↑(wl (List.drop i bs)):Int),[])))))∧(decide (IntKind.i64.wrap ((↑i:Int) + x) < (↑(bytesL bs).length:Int)) = false→RetIs (I6 x) [] (I6 (↑(wl (List.drop i bs)):Int),[])))∧(b = false→RetIs (I6 0) [] (I6 (↑(wl (List.drop i bs)):Int),[]))):=by kernel_rfl
theorem w140 (m:Int) (n:Int):(pureW PQ (GQ m) X1 (tbl []) (itbl []) ⟨nA,nA⟩ [] 140 [.int .u8 n] (.bool (decide (48≤n∧n≤57)),[])) =
((decide (n ≥ (48:Int)) = true→(decide (n≤(57:Int)) = true→RetIs (AV.bool true) [] (AV.bool (decide ((48:Int)≤n∧n≤(57:Int))),[]))∧(decide (n≤(57:Int)) = false→RetIs (AV.bool false) [] (AV.bool (decide ((48:Int)≤n∧n≤(57:Int))),[])))∧(decide (n ≥ (48:Int)) = false→RetIs (AV.bool false) [] (AV.bool (decide ((48:Int)≤n∧n≤(57:Int))),[]))):=by kernel_rfl
end Go.Abs.Lx
namespace Go.Abs.Lx
open Go.Proofs
theorem agg5:aggA PQ 5 = some false:=by kernel_rfl
theorem size5:(sizeA PQ 5).isSome = true:=by kernel_rfl
theorem wl_le (bs:List UInt8):wl bs≤bs.length:=by
 cases bs with
 | nil=>simp [wl]
 | cons c t =>
  simp only [wl]
  split
  ·have:=(List.takeWhile_prefix innerB (l:=t)).length_le
   simp; omega
  ·simp
theorem wl_drop {bs:List UInt8} {i:Nat} (h:i < bs.length):wl (bs.drop i) = if letterB (bs.getD i 0) then 1 + ((bs.drop (i + 1)).takeWhile innerB).length else 0:=by
 rw [List.drop_eq_getElem_cons h]
 simp [wl,h]
theorem getD_drop' {bs:List UInt8} {i k:Nat}:(bs.drop i).getD k 0 = bs.getD (i + k) 0:=by
 simp [List.getElem?_drop]
theorem wl_next {bs:List UInt8} {i k:Nat} (hk:k≤wl (bs.drop i)) (h1:1≤k) (h:i + k < bs.length) (hp:innerB (bs.getD (i + k) 0) = true):k + 1≤wl (bs.drop i):=by
 rw [wl_drop (by omega)] at hk ⊢
 split at hk
 ·rename_i hc
  rw [if_pos hc]
  have:=tw_next (p:=innerB) (l:=bs.drop (i + 1)) (k:=k - 1) (by omega) (by rw [List.length_drop]; omega) (by rw [getD_drop',show i + 1 + (k - 1) = i + k by omega]; exact hp)
  omega
 ·omega
theorem wl_stop {bs:List UInt8} {i k:Nat} (hk:k≤wl (bs.drop i)) (h1:1≤k) (hp:i + k < bs.length→innerB (bs.getD (i + k) 0) = false):k = wl (bs.drop i):=by
 have hl:=wl_le (bs.drop i)
 rw [List.length_drop] at hl
 have hi:i < bs.length:=by omega
 rw [wl_drop hi] at hk ⊢
 split at hk
 ·rename_i hc
  rw [if_pos hc]
  have:=tw_stop (p:=innerB) (l:=bs.drop (i + 1)) (k:=k - 1) (by omega) (fun h=>by rw [getD_drop',show i + 1 + (k - 1) = i + k by omega]; exact hp (by rw [List.length_drop] at h; omega))
  omega
 ·omega
theorem p123 (m:Int) (bs:List UInt8) (i:Nat) (hi:i < bs.length) (hb:bs.length < 2 ^ 60):PureOk PQ (GQ m) X1 (tbl t33) (itbl []) (a123 bs i) [] 123 [bytesA bs,.int .i64 i] (.int .i64 (wl (bs.drop i)),[]):=by
 constructor
 rw [w123]; unfold w123c2 w123c1 w123c3 I6
 simp only [callIs_iff,valsAre_iff,stIs_iff,retIs_iff,take_u8_iff agg5 size5,Option.some.injEq,Prod.mk.injEq,AV.bool.injEq,AV.int.injEq,List.cons.injEq,and_true,true_and,exists_eq_left',and_assoc,exists_and_left,decide_eq_true_eq,decide_eq_false_iff_not,bytesL_length,Int.toNat_natCast]
 have hw:=wl_drop hi
 have hl:=wl_le (bs.drop i)
 rw [List.length_drop] at hl
 have hlet:letterB (bs.getD i 0) = decide (97≤(bs.getD i 0).toNat∧(bs.getD i 0).toNat≤122):=rfl
 refine ⟨by omega,by omega,hi,fun hA=>⟨⟨1,rfl,Nat.le_refl _,?_⟩,?_⟩,fun hA=>?_⟩
 ·rw [hw,if_pos (by rw [hlet]; exact decide_eq_true (by omega))]; omega
 ·rintro x ⟨k,rfl,h1,h2⟩
  rw [wrap64_in (n:=(i:Int) + k) (by omega) (by omega),wrap64_in (n:=(k:Int) + 1) (by omega) (by omega),show ((i:Int) + k).toNat = i + k by omega]
  have hin:innerB (bs.getD (i + k) 0) = (decide (97≤(bs.getD (i + k) 0).toNat∧(bs.getD (i + k) 0).toNat≤122) || decide (48≤(bs.getD (i + k) 0).toNat∧(bs.getD (i + k) 0).toNat≤57) || (bs.getD (i + k) 0) == 95):=rfl
  generalize hc:bs.getD (i + k) 0 = c at *
  have step:i + k < bs.length→innerB c = true→(∃ j:Nat,(k:Int) + 1 = j∧1≤j∧j≤wl (bs.drop i))∧((bs.length:Int) - (k + 1)).toNat < ((bs.length:Int) - k).toNat:=fun hlt hp =>
   ⟨⟨k + 1,by omega,by omega,wl_next h2 h1 hlt (hc ▸ hp)⟩,by omega⟩
  refine ⟨fun hlt=>⟨by omega,by omega,by omega,fun hB=>step (by omega) (by rw [hin]; simp; omega),fun hB=>⟨by omega,by omega,by omega,fun hC=>step (by omega) (by rw [hin]; simp; omega),fun hC=>⟨by omega,by omega,by omega,fun hD=>step (by omega) ?_,fun hD=>?_⟩⟩⟩,fun hge=>?_⟩
  ·rw [hin]
   have:c = 95:=by
    rw [← UInt8.toNat_inj]
    have:(c.toNat:Int) = 95:=by simpa using hD
    have h95:(95:UInt8).toNat = 95:=rfl
    omega
   simp [this]
  ·have:=wl_stop (bs:=bs) (i:=i) (k:=k) h2 h1 fun _=>by
    rw [hc,hin]
    have:c ≠ 95:=by
     intro e; subst e; simp at hD
    simp [this]
    omega
   omega
  ·have:=wl_stop (bs:=bs) (i:=i) (k:=k) h2 h1 fun h=>by omega
   omega
 ·rw [hw,if_neg (by rw [hlet]; simp only [decide_eq_true_eq]; omega)]; rfl
end Go.Abs.Lx
namespace Go.Abs.Lx.L8
open Go.Abs
structure TkX where
 kind:Int
 text:List UInt8
 at_:Nat
 deriving DecidableEq
structure PbX where
 at_:Nat
 code:Int
 deriving DecidableEq
def blankB (c:UInt8):Bool:=c == 9 || c == 10 || c == 13 || c == 32
def signs:List UInt8:=[123,125,40,41,91,93,44,58,59,61,60,43,45,42,47,94,64]
def signB (c:UInt8):Bool:=signs.contains c
def eqSgB (c:UInt8):Bool:=c == 61 || c == 33 || c == 60
def valX (s:List UInt8):Nat:=s.foldl (fun n c=>10 * n + (c.toNat - 48)) 0
def intErr (s:List UInt8):Int:=if 2 ^ 60 < valX s then 2 else 0
def decErr (s:List UInt8):Int:=
 let a:=s.takeWhile digitB
 let b:=s.drop (a.length + 1)
 if 6 < b.length then 3 else if 2 ^ 60 < valX (a ++ b) * 10 ^ (6 - b.length) then 2 else 0
def badB (c:UInt8):Bool:=decide (c.toNat < 32) || decide (126 < c.toNat) || c == 92
def txtErr (s:List UInt8):Int:=if 64 < s.length then 2 else if s.any badB then 3 else 0
def lineB (c:UInt8):Bool:=c != 34 && c != 10
def piece:List UInt8→Int × Nat × Int
 | []=>(0,0,0)
 | c :: t =>
  if blankB c then (0,1,0)
  else if c == 35 then (0,1 + (t.takeWhile (· != 10)).length,0)
  else if letterB c then (1,1 + (t.takeWhile innerB).length,if 24 < 1 + (t.takeWhile innerB).length then 2 else 0)
  else if digitB c then
   let n:=1 + (t.takeWhile digitB).length
   match (c :: t).drop n with
   | 46 :: u =>
    if (u.takeWhile digitB).length = 0 then (2,n,intErr ((c :: t).take n))
    else (3,n + 1 + (u.takeWhile digitB).length,decErr ((c :: t).take (n + 1 + (u.takeWhile digitB).length)))
   | _=>(2,n,intErr ((c :: t).take n))
  else if c == 34 then
   match t.drop (t.takeWhile lineB).length with
   | 34 :: _=>(4,(t.takeWhile lineB).length + 2,txtErr (t.takeWhile lineB))
   | _=>(-1,1,80)
  else if eqSgB c && (t.head?.getD 0 == 61) then (5,2,0)
  else if signB c then (5,1,0)
  else (-1,1,80)
theorem piece_pos (c:UInt8) (t:List UInt8):1≤(piece (c :: t)).2.1:=by
 simp only [piece]
 repeat' split
 all_goals simp <;> omega
theorem tw_le {p:UInt8→Bool} (l:List UInt8):(l.takeWhile p).length≤l.length:=(List.takeWhile_prefix p).length_le
theorem drop_cons_lt {l:List UInt8} {n:Nat} {c:UInt8} {u:List UInt8} (h:l.drop n = c :: u):n + 1 + u.length = l.length:=by
 have:=congrArg List.length h
 simp at this
 omega
theorem piece_le (l:List UInt8):(piece l).2.1≤l.length:=by
 cases l with
 | nil=>simp [piece]
 | cons c t =>
  have h1:=tw_le (p:=(· != 10)) t
  have h2:=tw_le (p:=innerB) t
  have h3:=tw_le (p:=digitB) t
  have h4:=tw_le (p:=lineB) t
  simp only [piece]
  repeat' split
  all_goals try (simp <;> omega)
  ·rename_i u h5 _
   have:=drop_cons_lt h5
   have:=tw_le (p:=digitB) u
   simp at *; omega
  ·rename_i u h5
   have:=drop_cons_lt h5
   simp at *; omega
  ·rename_i h5 
   simp only [Bool.and_eq_true] at h5
   cases t with
   | nil=>simp at h5
   | cons d t=>simp
def txtOf (l:List UInt8):List UInt8:=if (piece l).1 = 4 then ((l.take (piece l).2.1).drop 1).take ((piece l).2.1 - 2) else l.take (piece l).2.1
def tkOf (l:List UInt8) (at_:Nat):List TkX:=if (piece l).1 ≠ -1∧(piece l).2.2 = 0∧(piece l).1 ≠ 0 then [⟨(piece l).1,txtOf l,at_⟩] else []
def pbOf (l:List UInt8) (at_:Nat) (adj:Bool):List PbX:=
 if (piece l).1 = -1 then (if adj then [] else [⟨at_,80⟩]) else if (piece l).2.2 = 0 then [] else [⟨at_,(piece l).2.2⟩]
def adjOf (l:List UInt8):Bool:=decide ((piece l).1 = -1)
def scanF:Nat→List UInt8→Nat→Bool→List TkX × List PbX
 | 0,_,_,_=>([],[])
 | n + 1,l,a,adj =>
  match l with
  | []=>([],[])
  | c :: t =>
   let r:=scanF n ((c :: t).drop (piece (c :: t)).2.1) (a + (piece (c :: t)).2.1) (adjOf (c :: t))
   (tkOf (c :: t) a ++ r.1,pbOf (c :: t) a adj ++ r.2)
theorem scanF_fuel:∀ (n m:Nat) (l:List UInt8) (a:Nat) (adj:Bool),l.length≤n→l.length≤m→scanF n l a adj = scanF m l a adj:=by
 intro n
 induction n with
 | zero =>
  intro m l a adj hn _
  have:l = []:=List.length_eq_zero_iff.1 (by omega)
  subst this
  cases m <;> simp [scanF]
 | succ n ih =>
  intro m l a adj hn hm
  cases l with
  | nil=>cases m <;> simp [scanF]
  | cons c t =>
   cases m with
   | zero=>simp at hm
   | succ m =>
    have:=piece_pos c t
    simp only [scanF]
    rw [ih m _ _ _ (by simp at hn ⊢; omega) (by simp at hm ⊢; omega)]
def scan (l:List UInt8) (a:Nat) (adj:Bool):List TkX × List PbX:=scanF l.length l a adj
theorem scan_nil (a:Nat) (adj:Bool):scan [] a adj = ([],[]):=rfl
theorem scan_step {l:List UInt8} (hl:l ≠ []) (a:Nat) (adj:Bool):scan l a adj = (tkOf l a ++ (scan (l.drop (piece l).2.1) (a + (piece l).2.1) (adjOf l)).1,pbOf l a adj ++ (scan (l.drop (piece l).2.1) (a + (piece l).2.1) (adjOf l)).2):=by
 cases l with
 | nil=>exact absurd rfl hl
 | cons c t =>
  have:=piece_pos c t
  unfold scan
  simp only [List.length_cons,scanF]
  rw [scanF_fuel t.length _ _ _ _ (by simp; omega) (Nat.le_refl _)]
def toksX (l:List UInt8):List TkX:=(scan l 0 false).1 ++ [⟨6,[],l.length⟩]
def probsL (l:List UInt8):List PbX:=(scan l 0 false).2.take 32
def tokA (t:TkX):AV:=.agg [.int .i64 t.kind,.str t.text,.int .i64 t.at_]
def pbX (p:PbX):AV:=.agg [.int .i64 p.at_,.int .i64 p.code]
end Go.Abs.Lx.L8
namespace Go.Abs.Lx
open Go.Proofs
def nAn:Anns:=⟨nA,nA⟩
end Go.Abs.Lx
