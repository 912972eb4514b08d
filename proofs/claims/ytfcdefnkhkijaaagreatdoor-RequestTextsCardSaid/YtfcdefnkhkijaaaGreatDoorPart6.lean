/- Own texts, part 6. -/
import Derived.Test.YtfcdefnkhkijaaaGreatDoorPart5
import Derived.Lib.AtoiAll
import Derived.Lib.AtoiErrMem

namespace Go.Abs.Lx
open Go.Proofs L8
def keptClasses:List AV:=(List.range 256).map fun c=>.int .u8 (cls c)
def keptClassesA:AV:=.agg keptClasses
def bytesD (es:List AV):List UInt8:=(unBytes es).getD []
theorem bytesD_mk (bs:List UInt8):bytesD (bytesL bs) = bs:=by simp only [bytesD,unBytes_mk,Option.getD_some]
def s85:ISpec:=fun args S=>match args,S with
 | [.int .i64 code,.ptr 0 0,.ptr 2 0],⟨[some [.sl 2 es (.tok 1)],some cs,some [.int .i64 a]],[p,(n,86)]⟩ =>
  some (n = es.length∧cs = keptClasses∧es.length≤1000000,.tup [],⟨[some [.sl 2 (if es.length < 32 then es ++ [.agg [.int .i64 a,.int .i64 code]] else es) (.tok 1)],some cs,some [.int .i64 a]],[p,(if es.length < 32 then n + 1 else n,86)]⟩)
 | _,_=>none
def inCls (ps:List AV) (c:UInt8):Bool:=(bytesD ps).any fun p=>p.toNat == cls c.toNat
def runL (ps:List AV) (l:List UInt8):Nat:=(l.takeWhile (inCls ps)).length
def s127:ISpec:=fun args S=>match args,S with
 | [.int .i64 n,.sl 1 ps .full,.ptr 3 0,.ptr 4 0],⟨[some b0,some cs,some b2,some [.sl 1 es .no],some [.ptr 1 0]],[p,q]⟩ =>
  some (cs = keptClasses∧(b0.all (AV.p0 5) = true∧b2.all (AV.p0 5) = true)∧(∃ bs,es = bytesL bs∧bs.length≤1000000∧0≤n∧n≤bs.length)∧(∃ qs,ps = bytesL qs∧qs ≠ []),.int .i64 (n + runL ps ((bytesD es).drop n.toNat)),⟨[some b0,some cs,some b2,some [.sl 1 es .no],some [.ptr 1 0]],[p,q]⟩)
 | _,_=>none
def s86:ISpec:=fun args S=>match args,S with
 | [.sl 1 es .no,.int .i64 n,.ptr 1 0],⟨[some b0,some cs,some b2],[p,q]⟩ =>
  some (cs = keptClasses∧(b0.all (AV.p0 3) = true∧b2.all (AV.p0 3) = true)∧(∃ bs,es = bytesL bs∧bs.length≤1000000∧0≤n∧n < bs.length),.tup [.int .i64 (piece ((bytesD es).drop n.toNat)).1,.int .i64 (n + (piece ((bytesD es).drop n.toNat)).2.1),.int .i64 (piece ((bytesD es).drop n.toNat)).2.2],⟨[some b0,some cs,some b2],[p,q]⟩)
 | _,_=>none
def onBytes (es:List AV) (f:List UInt8→Option (AV × List (Nat × TypeId))):Option (AV × List (Nat × TypeId)):=
 match unBytes es with
 | some bs=>f bs
 | none=>none
def s128:Spec:=fun args=>match args with
 | [.sl sz es .no,.int .u8 c] | [.sl sz es .full,.int .u8 c]=>if sz = 1∧es ≠ [] then onBytes es fun bs=>some (.int .i64 (Lib.indexByte bs c.toNat.toUInt8),[]) else none
 | _=>none
def s132:Spec:=sIndexByteString
def s130:Spec:=fun args=>match args with
 | [.sl sz es .no,.str [34,10]]=>if sz = 1 then onBytes es fun bs=>if bs.length≤1000000 then some (.int .i64 (if (bs.takeWhile lineB).length < bs.length then ((bs.takeWhile lineB).length:Int) else -1),[]) else none else none
 | _=>none
def s131:Spec:=fun args=>match args with
 | [.sl sz es .no]=>if sz = 1 then onBytes es fun bs=>if bs.length≤1000000 then some (.int .i64 (txtErr bs),[]) else none else none
 | _=>none
def intB (l:List UInt8):Bool:=decide (l ≠ []) && l.all digitB
def decB (l:List UInt8):Bool:=
 let a:=l.takeWhile digitB
 decide (a ≠ []) && decide (l[a.length]? = some 46) && intB (l.drop (a.length + 1))
def decVal (s:List UInt8):Nat:=
 let a:=s.takeWhile digitB
 let b:=s.drop (a.length + 1)
 valX (a ++ b) * 10 ^ (6 - b.length)
def s129:Spec:=fun args=>match args with
 | [.int .i64 k,.str l] =>
  if l.length≤1000000 then
   if k = 3∧decB l = true then some (.int .i64 (decErr l),[]) else if k = 2∧intB l = true then some (.int .i64 (intErr l),[]) else none
  else none
 | _=>none
def s84k:Spec:=fun args=>match args with
 | []=>some (keptClassesA,[])
 | _=>none
def s162':Spec:=fun args=>match args with
 | [.str l]=>if l.length≤1000000∧decB l = true then some (.tup [.int .i64 (if decErr l = 0 then decVal l else 0),.int .i64 (decErr l)],[]) else none
 | _=>none
def s89':Spec:=fun args=>match args with
 | [.str l]=>if l.length≤1000000∧intB l = true then some (if valX l≤9223372036854775807 then (.tup [.int .i64 (valX l),.lit .nilIface],[]) else (.tup [.int .i64 9223372036854775807,.ifc],[])) else none
 | _=>none
def shTI:Sh × Option TypeId:=(.tup [.one (.int .i64),.one (.int .i64)],none)
def shTE:Sh × Option TypeId:=(.tup [.one (.int .i64),.one .err],none)
def shCls:Sh × Option TypeId:=(.val (.one (.is keptClassesA)),none)
def XL:Shapes:=fun f=>match f with
 | 128 | 129 | 130 | 131 | 132 | 163 | 170 | 161=>some shI
 | 84=>some shCls
 | 162=>some shTI
 | 89=>some shTE
 | _=>none
def badA (l:List PbX) (o:Own):AV:=.sl 2 (l.map pbX) o
def tkA (l:List TkX) (o:Own):AV:=.sl 3 (l.map tokA) o
structure X36 where
 l:List TkX
 b:List PbX
 p:Nat
 adj:Bool
 st:Int
 code:Int
def stAt (x:X36):St:=⟨[some [badA (x.b.take 32) (.tok 1)],some keptClasses,some [.int .i64 x.p]],[(x.l.length,99),((x.b.take 32).length,86)]⟩
structure Inv36 (bs:List UInt8) (x:X36):Prop where
 small:bs.length≤16384
 len:x.l.length≤x.p
 p:x.p≤bs.length
 l:x.l ++ (scan (bs.drop x.p) x.p x.adj).1 = (scan bs 0 false).1
 b:x.b ++ (scan (bs.drop x.p) x.p x.adj).2 = (scan bs 0 false).2
 st:x.adj = true ↔ (x.st = x.p - 1∧x.p ≠ 0)
 lt:-1≤x.st∧x.st < x.p
structure Inv36b (bs:List UInt8) (x:X36):Prop where
 inv:Inv36 bs x
 p:x.p < bs.length
 un:(piece (bs.drop x.p)).1 = -1
 code:x.code = 80
def a36 (bs:List UInt8):Anns:=⟨nA,fun k=>match k with
 | 0=>some { α:=X36,slots:=[0,2,3,4,5,6,7,8],nb:=3,vals:=fun x=>[bytesA bs,tkA x.l (.tok 0),.ptr 0 0,.int .i64 0,.ptr 1 0,.ptr 2 0,.int .i64 x.st,.fn 85 [.ptr 0 0,.ptr 2 0]],sS:=stAt,I:=Inv36 bs,μ:=fun x=>2 * (bs.length - x.p) + 1,mint:=[(2,99)],mintB:=[(0,86)] }
 | 1=>some { α:=X36,slots:=[0,2,3,4,5,6,7,8,11],nb:=3,vals:=fun x=>[bytesA bs,tkA x.l (.tok 0),.ptr 0 0,.int .i64 0,.ptr 1 0,.ptr 2 0,.int .i64 x.st,.fn 85 [.ptr 0 0,.ptr 2 0],.int .i64 x.code],sS:=stAt,I:=Inv36b bs,μ:=fun x=>2 * (bs.length - x.p) }
 | _=>none⟩
def S37 (b0 b2:List AV) (es:List AV) (p q:Nat × TypeId):St:=⟨[some b0,some keptClasses,some b2,some [.sl 1 es .no],some [.ptr 1 0]],[p,q]⟩
def S29 (b0 b2:List AV) (p q:Nat × TypeId):St:=⟨[some b0,some keptClasses,some b2],[p,q]⟩
def a127 (n:Int) (ps:List AV) (o:Own) (bs:List UInt8) (S:St):Anns:=⟨fun k=>if k = 1 then some { α:=Nat,slots:=[0,1,2,3],nb:=5,vals:=fun j=>[.int .i64 (n + j),.sl 1 ps o,.ptr 3 0,.ptr 4 0],sS:=fun _=>S,I:=fun j=>j≤runL ps (bs.drop n.toNat),μ:=fun j=>(bs.length - n - j).toNat } else none,nA⟩
def a131 (bs:List UInt8):Anns:=⟨fun k=>if k = 4 then some { α:=Nat,slots:=[8,9,10],nb:=0,vals:=fun j=>[bytesA bs,.int .i64 bs.length,.int .i64 j],sS:=fun _=>⟨[],[]⟩,I:=fun j=>j≤bs.length∧(bs.take j).any badB = false,μ:=fun j=>bs.length - j } else none,nA⟩
def t29:List (FuncId × Spec):=[(128,s128),(129,s129),(130,s130),(131,s131),(132,s132)]
def t12:List (FuncId × Spec):=[(84,s84k)]
end Go.Abs.Lx
namespace Go.Abs.Lx
open Go.Proofs L8
def valF (n:Nat) (l:List UInt8):Nat:=l.foldl (fun n c=>10 * n + (c.toNat - 48)) n
theorem valL_eq (l:List UInt8):valX l = valF 0 l:=rfl
theorem valF_ge:∀ (l:List UInt8) (n:Nat),n≤valF n l
 | [],n=>Nat.le_refl _
 | c :: l,n=>by
  have:=valF_ge l (10 * n + (c.toNat - 48))
  simp only [valF,List.foldl_cons] at this ⊢
  omega
theorem valF_append (l k:List UInt8) (n:Nat):valF n (l ++ k) = valF (valF n l) k:=by simp [valF]
theorem digitB_iff {c:UInt8}:digitB c = true ↔ 48≤c.toNat∧c.toNat≤57:=by simp [digitB]
theorem parse_digits:∀ (l:List UInt8) (n:Nat),l.all digitB = true→n < 18446744073709551616 →
  Lib.parseUint10 n l = if valF n l < 18446744073709551616 then .ok (valF n l) else .range
 | [],n,_,hn=>by simp [Lib.parseUint10,valF,hn]
 | c :: l,n,hd,hn=>by
  simp only [List.all_cons,Bool.and_eq_true,digitB_iff] at hd
  have hv:valF n (c :: l) = valF (10 * n + (c.toNat - 48)) l:=rfl
  have hge:=valF_ge l (10 * n + (c.toNat - 48))
  simp only [Lib.parseUint10]
  rw [if_pos hd.1,hv]
  by_cases h1:1844674407370955162≤n
  ·rw [if_pos h1,if_neg (by omega)]
  ·rw [if_neg h1]
   by_cases h2:18446744073709551616≤n * 10 + (c.toNat - 48)
   ·rw [if_pos h2,if_neg (by omega)]
   ·rw [if_neg h2,Nat.mul_comm n 10]
    exact parse_digits l _ hd.2 (by omega)
theorem atoi_digits {l:List UInt8} (h:intB l = true):Lib.atoiAll l = if valX l≤9223372036854775807 then .ok (valX l:Int) else .range:=by
 simp only [intB,Bool.and_eq_true,decide_eq_true_eq] at h
 obtain ⟨h1,h2⟩:=h
 cases l with
 | nil=>exact absurd rfl h1
 | cons c r =>
  have hc:48≤c.toNat∧c.toNat≤57:=by
   simp only [List.all_cons,Bool.and_eq_true,digitB_iff] at h2; exact h2.1
  have hp:=parse_digits (c :: r) 0 h2 (by omega)
  simp only [Lib.atoiAll,Lib.parseMag]
  rw [if_neg (show ¬ (c.toNat = 43∨c.toNat = 45) by omega),if_neg (by simp),hp,valL_eq]
  by_cases h3:valF 0 (c :: r) < 18446744073709551616
  ·rw [if_pos h3]
   simp only
   by_cases h4:valF 0 (c :: r)≤9223372036854775807
   ·rw [if_pos h4,if_neg (by omega),if_neg (by omega),if_neg (by omega)]
   ·rw [if_neg h4,if_pos (by omega)]
  ·rw [if_neg h3,if_neg (by omega)]
def dstep (s:Option (List UInt8 × Option Nat)) (c:UInt8):Option (List UInt8 × Option Nat):=
 match s with
 | none=>none
 | some (ds,k) =>
  if c = 46∧k = none∧ds ≠ [] then some (ds,some 0)
  else if digitB c = true then some (ds ++ [c],k.map (· + 1))
  else none
def dfold (l:List UInt8):Option (List UInt8 × Option Nat):=l.foldl dstep (some ([],none))
def decFin (neg:Bool) (v k:Nat):Int × Int:=
 if 2 ^ 60 < v * 10 ^ (6 - k) then (0,2) else (if neg then -((v * 10 ^ (6 - k):Nat):Int) else ((v * 10 ^ (6 - k):Nat):Int),0)
def decR (neg:Bool) (r:List UInt8):Int × Int:=
 match dfold r with
 | none=>(0,3)
 | some (ds,k)=>if ds = []∨k = some 0∨6 < k.getD 0 then (0,3) else decFin neg (valX ds) (k.getD 0)
def negB (s:List UInt8):Bool:=s.head? == some 45
def decP (s:List UInt8):Int × Int:=decR (negB s) (if negB s then s.drop 1 else s)
theorem dfold_none (l:List UInt8):l.foldl dstep none = none:=by
 induction l with
 | nil=>rfl
 | cons c l ih=>simpa [dstep] using ih
theorem dfold_digits:∀ (a:List UInt8) (ds:List UInt8) (k:Option Nat),a.all digitB = true→a.foldl dstep (some (ds,k)) = some (ds ++ a,k.map (· + a.length))
 | [],ds,k,_=>by cases k <;> simp
 | c :: a,ds,k,h=>by
  simp only [List.all_cons,Bool.and_eq_true] at h
  have hc:¬ (c = 46):=by rintro rfl; simp [digitB] at h
  rw [List.foldl_cons]
  have:dstep (some (ds,k)) c = some (ds ++ [c],k.map (· + 1)):=by
   simp only [dstep]; rw [if_neg (fun h=>hc h.1),if_pos h.1]
  rw [this,dfold_digits a _ _ h.2]
  cases k <;> simp; omega
theorem dfold_point {a b:List UInt8} (ha:a.all digitB = true) (hne:a ≠ []) (hb:b.all digitB = true):dfold (a ++ 46 :: b) = some (a ++ b,some b.length):=by
 unfold dfold
 rw [List.foldl_append,dfold_digits a [] none ha,List.foldl_cons]
 have:dstep (some ([] ++ a,Option.map (· + a.length) none)) 46 = some (a,some 0):=by
  simp [dstep,hne]
 rw [this,dfold_digits b a (some 0) hb]
 simp
theorem takeWhile_all (p:UInt8→Bool) (l:List UInt8):(l.takeWhile p).all p = true:=by
 induction l with
 | nil=>rfl
 | cons c l ih =>
  rw [List.takeWhile_cons]
  split
  ·rename_i h; simp [h,ih]
  ·rfl
theorem decB_split {l:List UInt8} (h:decB l = true):∃ a b,l = a ++ 46 :: b∧a.all digitB = true∧a ≠ []∧b.all digitB = true∧b ≠ []∧l.takeWhile digitB = a∧l.drop (a.length + 1) = b:=by
 simp only [decB,Bool.and_eq_true,decide_eq_true_eq,intB] at h
 obtain ⟨⟨h1,h2⟩,h3,h4⟩:=h
 refine ⟨l.takeWhile digitB,l.drop ((l.takeWhile digitB).length + 1),?_,takeWhile_all _ _,h1,h4,h3,rfl,rfl⟩
 have hlt:=(List.getElem?_eq_some_iff.1 h2).1
 have hv:=(List.getElem?_eq_some_iff.1 h2).2
 have e1:l.take (l.takeWhile digitB).length = l.takeWhile digitB:=(List.prefix_iff_eq_take.1 (List.takeWhile_prefix digitB)).symm
 conv=>lhs; rw [← List.take_append_drop (l.takeWhile digitB).length l,e1,List.drop_eq_getElem_cons hlt,hv]
theorem negB_digit {c:UInt8} {t:List UInt8} (h:digitB c = true):negB (c :: t) = false:=by
 have:c ≠ 45:=by rintro rfl; simp [digitB] at h
 simp [negB,this]
theorem decP_decB {l:List UInt8} (h:decB l = true):decP l = (if decErr l = 0 then (decVal l:Int) else 0,decErr l):=by
 obtain ⟨a,b,h1,h2,h3,h4,h5,h6,h7⟩:=decB_split h
 have hd:=dfold_point h2 h3 h4
 rw [← h1] at hd
 have hneg:negB l = false:=by
  cases a with
  | nil=>exact absurd rfl h3
  | cons c t =>
   simp only [List.all_cons,Bool.and_eq_true] at h2
   rw [h1]; exact negB_digit h2.1
 have hb:0 < b.length:=List.length_pos_iff.2 h5
 simp only [decP,hneg,Bool.false_eq_true,if_false,decR,hd,decErr,decVal,h6,h7,Option.getD_some]
 by_cases h8:6 < b.length
 ·rw [if_pos (.inr (.inr h8)),if_pos h8]; rfl
 ·have hab:a ++ b ≠ []:=by simp [h3]
  have hno:¬ (a ++ b = []∨some b.length = some 0∨6 < b.length):=by
   rintro (h | h | h)
   ·exact hab h
   ·simp only [Option.some.injEq] at h; omega
   ·exact h8 h
  rw [if_neg hno,if_neg h8]
  simp only [decFin]
  by_cases h9:2 ^ 60 < valX (a ++ b) * 10 ^ (6 - b.length)
  ·rw [if_pos h9,if_pos h9]; rfl
  ·rw [if_neg h9,if_neg h9]; rfl
end Go.Abs.Lx
namespace Go.Abs.Lx
open Go.Proofs L8
structure X162 where
 i:Nat
 ds:List UInt8
 k:Option Nat
 x:Int
 big:Bool
def ptv (i:Nat):Option Nat→Int
 | none=>-1
 | some j=>(i:Int) - j - 1
structure Inv162 (r:List UInt8) (y:X162):Prop where
 i:y.i≤r.length
 fold:dfold (r.take y.i) = some (y.ds,y.k)
 k:∀ j,y.k = some j→j + 1≤y.i∧y.ds ≠ []
 k0:y.k = none→y.ds.length = y.i
 small:y.big = false→y.x = valX y.ds∧valX y.ds≤1152921504606846976
 great:y.big = true→1152921504606846976 < valX y.ds
 x:0≤y.x∧y.x≤1152921504606846976
def restB (s:List UInt8):List UInt8:=if negB s then s.drop 1 else s
structure End162 (r:List UInt8) (y:X162):Prop where
 inv:Inv162 r y
 i:y.i = r.length
def a162 (s:List UInt8):Anns:=⟨fun k=>match k with
 | 6=>some { α:=X162,slots:=[2,4,5,6,7,8],nb:=0,vals:=fun y=>[.int .i64 y.x,.str (restB s),.bool (negB s),.int .i64 (ptv y.i y.k),.bool y.big,.int .i64 y.i],sS:=fun _=>⟨[],[]⟩,I:=Inv162 (restB s),μ:=fun y=>(restB s).length - y.i,bools:=[7] }
 | 1000004=>some { α:=Unit,slots:=[2,4,5],nb:=0,vals:=fun _=>[.int .i64 0,.str (restB s),.bool (negB s)],sS:=fun _=>⟨[],[]⟩,I:=fun _=>True,μ:=fun _=>0 }
 | 1000018=>some { α:=X162,slots:=[2,4,5,6,7],nb:=0,vals:=fun y=>[.int .i64 y.x,.str (restB s),.bool (negB s),.int .i64 (ptv y.i y.k),.bool y.big],sS:=fun _=>⟨[],[]⟩,I:=End162 (restB s),μ:=fun _=>0,bools:=[7,5] }
 | _=>none,nA⟩
def s162:Spec:=fun args=>match args with
 | [.str l]=>if l.length≤1000000 then some (.tup [.int .i64 (decP l).1,.int .i64 (decP l).2],[]) else none
 | _=>none
end Go.Abs.Lx
namespace Go.Abs.Lx
open Go.Proofs L8
abbrev w162c5:=AV.tup [AV.int IntKind.i64 (0:Int),AV.int IntKind.i64 (3:Int)]
abbrev w162c2 (s:List UInt8):AV × List (Nat × TypeId):=(AV.tup [AV.int IntKind.i64 (decP s).fst,AV.int IntKind.i64 (decP s).snd],[])
abbrev w162c17 (x:X162) (c:UInt8):=x.x > IntKind.i64.wrap ((IntKind.i64.wrap ((1152921504606846976:Int) - IntKind.i64.wrap (IntKind.u8.wrap ((↑c.toNat:Int) - (48:Int))))).tdiv (10:Int))
abbrev w162c16 (x:X162) (s:List UInt8):List AV:=[I6 x.x,AV.str (restB s),AV.bool (negB s),I6 (ptv x.i x.k),AV.bool true,I6 (IntKind.i64.wrap ((↑x.i:Int) + (1:Int)))]
abbrev w162c7 (y:X162) (s:List UInt8):List AV:=[I6 y.x,AV.str (restB s),AV.bool (negB s),I6 (ptv y.i y.k),AV.bool y.big,I6 (↑y.i:Int)]
abbrev w162c1 (c:UInt8) (s:List UInt8) (x:X162):Prop:=decide ((↑c.toNat:Int) < (48:Int)) = false→(decide ((↑c.toNat:Int) > (57:Int)) = true→RetIs w162c5 [] (w162c2 s))∧(decide ((↑c.toNat:Int) > (57:Int)) = false→(10:Int) ≠ (0:Int)∧(decide (w162c17 x c) = true→∃ (y:X162),ValsAre (w162c16 x s) (w162c7 y s)∧StIs { boxes:=[],live:=[] } { boxes:=[],live:=[] }∧Inv162 (restB s) y∧(restB s).length - y.i < (restB s).length - x.i)∧(decide (w162c17 x c) = false→∃ (y:X162),ValsAre [I6 (IntKind.i64.wrap (IntKind.i64.wrap ((10:Int) * x.x) + IntKind.i64.wrap (IntKind.u8.wrap ((↑c.toNat:Int) - (48:Int))))),AV.str (restB s),AV.bool (negB s),I6 (ptv x.i x.k),AV.bool false,I6 (IntKind.i64.wrap ((↑x.i:Int) + (1:Int)))] (w162c7 y s)∧StIs { boxes:=[],live:=[] } { boxes:=[],live:=[] }∧Inv162 (restB s) y∧(restB s).length - y.i < (restB s).length - x.i))
abbrev w162c6 (s:List UInt8) (x:X162):=IntKind.i64.wrap ((↑(restB s).length:Int) - ptv x.i x.k) - (1:Int)
abbrev w162c18 (s:List UInt8) (x:X162):=IntKind.i64.wrap (w162c6 s x) == (0:Int)
abbrev w162c20 (s:List UInt8) (x:X162):Prop:=decide (IntKind.i64.wrap (w162c6 s x) > (6:Int)) = true→RetIs w162c5 [] (w162c2 s)
abbrev w162c13 (s:List UInt8):Prop:=(restB s == []) = true→RetIs w162c5 [] (w162c2 s)
abbrev w162c12 (s:List UInt8) (x:X162):Prop:=(0:Int)≤IntKind.i64.wrap ((6:Int) - IntKind.i64.wrap (w162c6 s x))∧IntKind.i64.wrap ((6:Int) - IntKind.i64.wrap (w162c6 s x)) < (7:Int)
abbrev w162c8:List AV:=[AV.agg [I6 1,I6 10,I6 100,I6 1000,I6 10000,I6 100000,I6 1000000]]
abbrev w162c15 (s:List UInt8) (x:X162):=(0:Nat) + (IntKind.i64.wrap ((6:Int) - IntKind.i64.wrap (w162c6 s x))).toNat * (1:Nat)
abbrev w162c19:=AV.tup [AV.int IntKind.i64 (0:Int),AV.int IntKind.i64 (2:Int)]
abbrev w162c3 (x:X162) (s:List UInt8):Prop:=decide (ptv x.i x.k ≥ (0:Int)) = true→((w162c18 s x) = true→RetIs w162c5 [] (w162c2 s))∧((w162c18 s x) = false→(w162c20 s x)∧(decide (IntKind.i64.wrap (w162c6 s x) > (6:Int)) = false→(w162c13 s)∧((restB s == []) = false→(w162c12 s x)∧∃ (n:Int),takeAt PQ 3 w162c8 0 (w162c15 s x) = some (AV.int IntKind.i64 n)∧RetIs w162c19 [] (w162c2 s))))
abbrev w162c4 (c:UInt8) (s:List UInt8) (x:X162):Prop:=decide ((↑c.toNat:Int) < (48:Int)) = false→(decide ((↑c.toNat:Int) > (57:Int)) = true→RetIs w162c5 [] (w162c2 s))∧(decide ((↑c.toNat:Int) > (57:Int)) = false→∃ (y:X162),ValsAre (w162c16 x s) (w162c7 y s)∧StIs { boxes:=[],live:=[] } { boxes:=[],live:=[] }∧Inv162 (restB s) y∧(restB s).length - y.i < (restB s).length - x.i)
abbrev w162c14 (x:X162) (n:Int):=x.x > IntKind.i64.wrap (Int.tdiv (1152921504606846976:Int) n)
abbrev w162c9 (x:X162) (n:Int) (s:List UInt8):Prop:=decide (w162c14 x n) = true→RetIs w162c19 [] (w162c2 s)
abbrev w162c10 (x:X162) (s:List UInt8):Prop:=decide (ptv x.i x.k ≥ (0:Int)) = false→(w162c13 s)∧((restB s == []) = false→((0:Int)≤(6:Int)∧(6:Int) < (7:Int))∧∃ (n:Int),some (AV.int IntKind.i64 1000000) = some (AV.int IntKind.i64 n)∧RetIs w162c19 [] (w162c2 s))
abbrev w162c11 (c:UInt8) (s:List UInt8):Prop:=decide ((↑c.toNat:Int) < (48:Int)) = true→RetIs w162c5 [] (w162c2 s)
abbrev w162c21 (x:X162) (n:Int) (s:List UInt8):Prop:=decide (w162c14 x n) = false→RetIs (AV.tup [AV.int IntKind.i64 (IntKind.i64.wrap ((0:Int) - IntKind.i64.wrap (x.x * n))),AV.int IntKind.i64 0]) [] (w162c2 s)
theorem w162 (m:Int) (s:List UInt8):(pureW PQ (GQ m) XL (tbl []) (itbl []) (a162 s) [] 162 [.str s] (.tup [.int .i64 (decP s).1,.int .i64 (decP s).2],[])) =
(((((!s == []) = true→(0:Int)≤(0:Int)∧∃ (c:UInt8),s[(0:Nat)]? = some c∧(((↑c.toNat:Int) == (45:Int)) = true→(0:Int)≤(1:Int)∧((1:Nat)≤s.length∧s.length≤s.length)∧∃ (_y:Unit),ValsAre [I6 0,AV.str (List.drop 1 (List.take s.length s)),AV.bool true] [I6 0,AV.str (restB s),AV.bool (negB s)]∧StIs { boxes:=[],live:=[] } { boxes:=[],live:=[] }∧True∧True)∧(((↑c.toNat:Int) == (45:Int)) = false→∃ (_y:Unit),ValsAre [I6 0,AV.str s,AV.bool false] [I6 0,AV.str (restB s),AV.bool (negB s)]∧StIs { boxes:=[],live:=[] } { boxes:=[],live:=[] }∧True∧True))∧((!s == []) = false→∃ (_y:Unit),ValsAre [I6 0,AV.str s,AV.bool false] [I6 0,AV.str (restB s),AV.bool (negB s)]∧StIs { boxes:=[],live:=[] } { boxes:=[],live:=[] }∧True∧True))∧∀ (_x:Unit),True→True→((∃ (y:X162),ValsAre [I6 0,AV.str (restB s),AV.bool (negB s),I6 (-1),AV.bool false,I6 0] (w162c7 y s)∧StIs { boxes:=[],live:=[] } { boxes:=[],live:=[] }∧Inv162 (restB s) y∧True)∧∀ (x:X162),Inv162 (restB s) x→(x.big = true→(decide ((↑x.i:Int) < (↑(restB s).length:Int)) = true→(0:Int)≤(↑x.i:Int)∧∃ (c:UInt8),(restB s)[(↑x.i:Int).toNat]? = some c∧(((↑c.toNat:Int) == (46:Int)) = true→(decide (ptv x.i x.k < (0:Int)) = true→(decide ((↑x.i:Int) > (0:Int)) = true→∃ (y:X162),ValsAre [I6 x.x,AV.str (restB s),AV.bool (negB s),I6 (↑x.i:Int),AV.bool true,I6 (IntKind.i64.wrap ((↑x.i:Int) + (1:Int)))] (w162c7 y s)∧StIs { boxes:=[],live:=[] } { boxes:=[],live:=[] }∧Inv162 (restB s) y∧(restB s).length - y.i < (restB s).length - x.i)∧(decide ((↑x.i:Int) > (0:Int)) = false→(w162c11 c s)∧(w162c4 c s x)))∧(decide (ptv x.i x.k < (0:Int)) = false→(w162c11 c s)∧(w162c4 c s x)))∧(((↑c.toNat:Int) == (46:Int)) = false→(w162c11 c s)∧(w162c4 c s x)))∧(decide ((↑x.i:Int) < (↑(restB s).length:Int)) = false→∃ (y:X162),ValsAre [I6 x.x,AV.str (restB s),AV.bool (negB s),I6 (ptv x.i x.k),AV.bool true] [I6 y.x,AV.str (restB s),AV.bool (negB s),I6 (ptv y.i y.k),AV.bool y.big]∧StIs { boxes:=[],live:=[] } { boxes:=[],live:=[] }∧End162 (restB s) y∧True))∧(x.big = false→(decide ((↑x.i:Int) < (↑(restB s).length:Int)) = true→(0:Int)≤(↑x.i:Int)∧∃ (c:UInt8),(restB s)[(↑x.i:Int).toNat]? = some c∧(((↑c.toNat:Int) == (46:Int)) = true→(decide (ptv x.i x.k < (0:Int)) = true→(decide ((↑x.i:Int) > (0:Int)) = true→∃ (y:X162),ValsAre [I6 x.x,AV.str (restB s),AV.bool (negB s),I6 (↑x.i:Int),AV.bool false,I6 (IntKind.i64.wrap ((↑x.i:Int) + (1:Int)))] (w162c7 y s)∧StIs { boxes:=[],live:=[] } { boxes:=[],live:=[] }∧Inv162 (restB s) y∧(restB s).length - y.i < (restB s).length - x.i)∧(decide ((↑x.i:Int) > (0:Int)) = false→(w162c11 c s)∧(w162c1 c s x)))∧(decide (ptv x.i x.k < (0:Int)) = false→(w162c11 c s)∧(w162c1 c s x)))∧(((↑c.toNat:Int) == (46:Int)) = false→(w162c11 c s)∧(w162c1 c s x)))∧(decide ((↑x.i:Int) < (↑(restB s).length:Int)) = false→∃ (y:X162),ValsAre [I6 x.x,AV.str (restB s),AV.bool (negB s),I6 (ptv x.i x.k),AV.bool false] [I6 y.x,AV.str (restB s),AV.bool (negB s),I6 (ptv y.i y.k),AV.bool y.big]∧StIs { boxes:=[],live:=[] } { boxes:=[],live:=[] }∧End162 (restB s) y∧True)))∧∀ (x:X162),End162 (restB s) x→True→(x.big = true→(negB s = true→(w162c3 x s)∧(w162c10 x s))∧(negB s = false→(w162c3 x s)∧(w162c10 x s)))∧(x.big = false→(negB s = true→(decide (ptv x.i x.k ≥ (0:Int)) = true→((w162c18 s x) = true→RetIs w162c5 [] (w162c2 s))∧((w162c18 s x) = false→(w162c20 s x)∧(decide (IntKind.i64.wrap (w162c6 s x) > (6:Int)) = false→(w162c13 s)∧((restB s == []) = false→(w162c12 s x)∧∃ (n:Int),takeAt PQ 3 w162c8 0 (w162c15 s x) = some (I6 n)∧n ≠ (0:Int)∧(w162c9 x n s)∧(w162c21 x n s)))))∧(decide (ptv x.i x.k ≥ (0:Int)) = false→(w162c13 s)∧((restB s == []) = false→((0:Int)≤(6:Int)∧(6:Int) < (7:Int))∧∃ (n:Int),some (I6 1000000) = some (I6 n)∧n ≠ (0:Int)∧(w162c9 x n s)∧(w162c21 x n s))))∧(negB s = false→(decide (ptv x.i x.k ≥ (0:Int)) = true→((w162c18 s x) = true→RetIs w162c5 [] (w162c2 s))∧((w162c18 s x) = false→(w162c20 s x)∧(decide (IntKind.i64.wrap (w162c6 s x) > (6:Int)) = false→(w162c13 s)∧((restB s == []) = false→(w162c12 s x)∧∃ (n:Int),takeAt PQ 3 w162c8 0 (w162c15 s x) = some (I6 n)∧n ≠ (0:Int)∧(w162c9 x n s)∧(decide (w162c14 x n) = false→RetIs (AV.tup [I6 (IntKind.i64.wrap (x.x * n)),I6 0]) [] (w162c2 s))))))∧(decide (ptv x.i x.k ≥ (0:Int)) = false→(w162c13 s)∧((restB s == []) = false→((0:Int)≤(6:Int)∧(6:Int) < (7:Int))∧∃ (n:Int),some (I6 1000000) = some (I6 n)∧n ≠ (0:Int)∧(w162c9 x n s)∧(decide (w162c14 x n) = false→RetIs (AV.tup [I6 (IntKind.i64.wrap (x.x * n)),I6 0]) [] (w162c2 s)))))))∧True∧True):=by kernel_rfl
end Go.Abs.Lx
namespace Go.Abs.Lx
open Go.Proofs L8
abbrev w85c1 (es:List AV) (a:Int) (code:Int) (p:Nat × TypeId) (n:Nat):AV × St:=(AV.tup [],{ boxes:=[some [AV.sl 2 (if es.length < (32:Nat) then es ++ [AV.agg [I6 a,I6 code]] else es) (Own.tok 1)],some keptClasses,some [I6 a]],live:=[p,(if es.length < (32:Nat) then n + (1:Nat) else n,86)] })
abbrev w85c2 (es:List AV) (a:Int) (code:Int):List (Option (List AV)):=[some [AV.sl 2 (es ++ [AV.agg [I6 a,I6 code]]) (Own.tok 1)],some keptClasses,some [I6 a]]
theorem w85 (m:Int) (code a:Int) (es:List AV) (p:Nat × TypeId) (n:Nat):(openW PQ (GQ m) XL (tbl []) (itbl []) nAn [] 85 [.int .i64 code,.ptr 0 0,.ptr 2 0] ⟨[some [.sl 2 es (.tok 1)],some keptClasses,some [.int .i64 a]],[p,(n,86)]⟩ (.tup [],⟨[some [.sl 2 (if es.length < 32 then es ++ [.agg [.int .i64 a,.int .i64 code]] else es) (.tok 1)],some keptClasses,some [.int .i64 a]],[p,(if es.length < 32 then n + 1 else n,86)]⟩)) =
((decide ((↑es.length:Int) < (32:Int)) = true→((2:Nat) = (2:Nat)∨es = [])∧(es.length + (1:Nat)) * (17:Nat)≤(70368744177664:Nat)∧n = es.length∧RetOpen (AV.p2 3 (AV.tup []) && boxesOk 3 (w85c2 es a code)) (AV.tup []) { boxes:=(w85c2 es a code),live:=[p,(es.length + (1:Nat),86)] } (w85c1 es a code p n))∧(decide ((↑es.length:Int) < (32:Int)) = false→RetOpen (AV.p2 3 (AV.tup []) && boxesOk 3 [some [AV.sl 2 es (Own.tok 1)],some keptClasses,some [AV.int IntKind.i64 a]]) (AV.tup []) { boxes:=[some [AV.sl 2 es (Own.tok 1)],some keptClasses,some [AV.int IntKind.i64 a]],live:=[p,(n,86)] } (w85c1 es a code p n))):=by kernel_rfl
theorem w128 (m c:Int) (bs:List UInt8):(pureW PQ (GQ m) XL (tbl lib8) (itbl []) nAn [] 128 [.sl 1 (bytesL bs) .no,.int .u8 c] (.int .i64 (Lib.indexByte bs c.toNat.toUInt8),[])) =
(∃ (n:Int),CallIs (tbl [(161,sIndexByte),(163,sIndexByteString),(133,sContains)] 161 [AV.sl 1 (bytesL bs) Own.no,AV.int IntKind.u8 c]) (I6 n) []∧RetIs (I6 n) [] (I6 (Lib.indexByte bs c.toNat.toUInt8),[])):=by kernel_rfl
theorem w128f (m c:Int) (bs:List UInt8):(pureW PQ (GQ m) XL (tbl lib8) (itbl []) nAn [] 128 [.sl 1 (bytesL bs) .full,.int .u8 c] (.int .i64 (Lib.indexByte bs c.toNat.toUInt8),[])) =
(∃ (n:Int),CallIs (tbl [(161,sIndexByte),(163,sIndexByteString),(133,sContains)] 161 [AV.sl 1 (bytesL bs) Own.full,AV.int IntKind.u8 c]) (I6 n) []∧RetIs (I6 n) [] (I6 (Lib.indexByte bs c.toNat.toUInt8),[])):=by kernel_rfl
theorem w170 (m c:Int) (l:List UInt8):(pureW PQ (GQ m) XL (tbl lib8) (itbl []) nAn [] 170 [.str l,.int .u8 c] (.int .i64 (Lib.indexByte l c.toNat.toUInt8),[])) =
(∃ (n:Int),CallIs (some (I6 (Lib.indexByte l c.toNat.toUInt8),[])) (I6 n) []∧RetIs (I6 n) [] (I6 (Lib.indexByte l c.toNat.toUInt8),[])):=by kernel_rfl
theorem w132 (m c:Int) (l:List UInt8):(pureW PQ (GQ m) XL (tbl [(170,sIndexByteString)]) (itbl []) nAn [] 132 [.str l,.int .u8 c] (.int .i64 (Lib.indexByte l c.toNat.toUInt8),[])) =
(∃ (n:Int),CallIs (some (I6 (Lib.indexByte l c.toNat.toUInt8),[])) (I6 n) []∧RetIs (I6 n) [] (I6 (Lib.indexByte l c.toNat.toUInt8),[])):=by kernel_rfl
theorem w131 (m:Int) (bs:List UInt8) (sz:Nat) (o:Own):(pureW PQ (GQ m) XL (tbl []) (itbl []) (a131 bs) [] 131 [.sl sz (bytesL bs) o] (.int .i64 (txtErr bs),[])) =
((decide ((↑(bytesL bs).length:Int) > (64:Int)) = true→RetIs (I6 2) [] (I6 (txtErr bs),[]))∧(decide ((↑(bytesL bs).length:Int) > (64:Int)) = false→(∃ (y:Nat),ValsAre [AV.sl sz (bytesL bs) o,I6 (↑(bytesL bs).length:Int),I6 0] [AV.sl 1 (bytesL bs) Own.no,I6 (↑bs.length:Int),I6 (↑y:Int)]∧StIs { boxes:=[],live:=[] } { boxes:=[],live:=[] }∧(y≤bs.length∧(List.take y bs).any badB = false)∧True)∧∀ (x:Nat),x≤bs.length∧(List.take x bs).any badB = false→(decide ((↑x:Int) < (↑bs.length:Int)) = true→((0:Int)≤(↑x:Int)∧(↑x:Int) < (↑(bytesL bs).length:Int))∧∃ (n:Int),takeAt PQ 5 (bytesL bs) (↑x:Int).toNat 0 = some (AV.int IntKind.u8 n)∧(decide (n < (32:Int)) = true→RetIs (I6 3) [] (I6 (txtErr bs),[]))∧(decide (n < (32:Int)) = false→(decide (n > (126:Int)) = true→RetIs (I6 3) [] (I6 (txtErr bs),[]))∧(decide (n > (126:Int)) = false→((n == (92:Int)) = true→RetIs (I6 3) [] (I6 (txtErr bs),[]))∧((n == (92:Int)) = false→∃ (y:Nat),ValsAre [AV.sl 1 (bytesL bs) Own.no,I6 (↑bs.length:Int),I6 (IntKind.i64.wrap ((↑x:Int) + (1:Int)))] [AV.sl 1 (bytesL bs) Own.no,I6 (↑bs.length:Int),I6 (↑y:Int)]∧StIs { boxes:=[],live:=[] } { boxes:=[],live:=[] }∧(y≤bs.length∧(List.take y bs).any badB = false)∧bs.length - y < bs.length - x))))∧(decide ((↑x:Int) < (↑bs.length:Int)) = false→RetIs (I6 0) [] (I6 (txtErr bs),[])))):=by kernel_rfl
abbrev w127c1 (b0:List AV) (b2:List AV) (bs:List UInt8):List (Option (List AV)):=[some b0,some keptClasses,some b2,some [AV.sl 1 (bytesL bs) Own.no],some [AV.ptr 1 0]]
theorem w127 (m n:Int) (ps:List AV) (bs:List UInt8) (b0 b2:List AV) (p q:Nat × TypeId):(openW PQ (GQ m) XL (tbl [(128,s128)]) (itbl []) (a127 n ps .full bs (S37 b0 b2 (bytesL bs) p q)) [] 127 [.int .i64 n,.sl 1 ps .full,.ptr 3 0,.ptr 4 0] (S37 b0 b2 (bytesL bs) p q) (.int .i64 (n + runL ps (bs.drop n.toNat)),S37 b0 b2 (bytesL bs) p q)) =
((∃ (y:Nat),ValsAre [I6 n,AV.sl 1 ps Own.full,AV.ptr 3 0,AV.ptr 4 0] [I6 (n + (↑y:Int)),AV.sl 1 ps Own.full,AV.ptr 3 0,AV.ptr 4 0]∧StIs { boxes:=(w127c1 b0 b2 bs),live:=[p,q] } { boxes:=(w127c1 b0 b2 bs),live:=[p,q] }∧y≤runL ps (List.drop n.toNat bs)∧True)∧∀ (x:Nat),x≤runL ps (List.drop n.toNat bs)→(decide (n + (↑x:Int) < (↑(bytesL bs).length:Int)) = true→((0:Int)≤n + (↑x:Int)∧n + (↑x:Int) < (↑(bytesL bs).length:Int))∧∃ (n_1:Int),takeAt PQ 5 (bytesL bs) (n + (↑x:Int)).toNat 0 = some (AV.int IntKind.u8 n_1)∧((0:Int)≤n_1∧n_1 < (256:Int))∧∃ (n_2:Int),takeA (some false) (some 1) keptClasses ((0:Nat) + n_1.toNat * (1:Nat)) = some (AV.int IntKind.u8 n_2)∧∃ (n_3:Int),CallIs (tbl [(128,s128)] 128 [AV.sl 1 ps Own.full,AV.int IntKind.u8 n_2]) (I6 n_3) []∧(decide (n_3 ≥ (0:Int)) = true→∃ (y:Nat),ValsAre [I6 (IntKind.i64.wrap (n + (↑x:Int) + (1:Int))),AV.sl 1 ps Own.full,AV.ptr 3 0,AV.ptr 4 0] [I6 (n + (↑y:Int)),AV.sl 1 ps Own.full,AV.ptr 3 0,AV.ptr 4 0]∧StIs { boxes:=(w127c1 b0 b2 bs),live:=[p,q] } { boxes:=(w127c1 b0 b2 bs),live:=[p,q] }∧y≤runL ps (List.drop n.toNat bs)∧((↑bs.length:Int) - n - (↑y:Int)).toNat < ((↑bs.length:Int) - n - (↑x:Int)).toNat)∧(decide (n_3 ≥ (0:Int)) = false→RetOpen (AV.p2 5 (I6 (n + (↑x:Int))) && boxesOk 5 (w127c1 b0 b2 bs)) (I6 (n + (↑x:Int))) { boxes:=(w127c1 b0 b2 bs),live:=[p,q] } (I6 (n + (↑(runL ps (List.drop n.toNat bs)):Int)),{ boxes:=(w127c1 b0 b2 bs),live:=[p,q] })))∧(decide (n + (↑x:Int) < (↑(bytesL bs).length:Int)) = false→RetOpen (AV.p2 5 (I6 (n + (↑x:Int))) && boxesOk 5 (w127c1 b0 b2 bs)) (I6 (n + (↑x:Int))) { boxes:=(w127c1 b0 b2 bs),live:=[p,q] } (I6 (n + (↑(runL ps (List.drop n.toNat bs)):Int)),{ boxes:=(w127c1 b0 b2 bs),live:=[p,q] }))):=by kernel_rfl
end Go.Abs.Lx
namespace Go.Abs.Lx
open Go.Proofs L8
theorem retOpen_iff {ok:Bool} {r:AV} {S:St} {s:AV × St}:RetOpen ok r S s ↔ ok = true∧(r,S) = s:=⟨fun h=>⟨h.ok,h.eq⟩,fun h=>⟨h.1,h.2⟩⟩
theorem retLax_iff {r:AV} {s:AV × List (Nat × TypeId)}:RetLax r s ↔ Lax2 r s.1∧s.1.closed2 = true∧s.2 = []:=⟨fun h=>⟨h.lax,h.closed,h.none⟩,fun h=>⟨h.1,h.2.1,h.2.2⟩⟩
theorem p85 (m code a:Int) (es:List AV) (p:Nat × TypeId) (n:Nat) (hn:n = es.length) (hl:es.length≤1000000):OpenOk PQ (GQ m) XL (tbl []) (itbl []) nAn [] 85 [.int .i64 code,.ptr 0 0,.ptr 2 0] ⟨[some [.sl 2 es (.tok 1)],some keptClasses,some [.int .i64 a]],[p,(n,86)]⟩ (.tup [],⟨[some [.sl 2 (if es.length < 32 then es ++ [.agg [.int .i64 a,.int .i64 code]] else es) (.tok 1)],some keptClasses,some [.int .i64 a]],[p,(if es.length < 32 then n + 1 else n,86)]⟩):=by
 constructor
 rw [w85]; unfold w85c2 w85c1 I6
 subst hn
 refine ⟨fun h=>⟨.inl rfl,by omega,rfl,?_⟩,fun h=>?_⟩
 ·have h':es.length < 32:=by have:=of_decide_eq_true h; omega
  exact ⟨by kernel_rfl,by simp [h']⟩
 ·have h':¬ es.length < 32:=by have:=of_decide_eq_false h; omega
  exact ⟨by kernel_rfl,by simp [h']⟩
theorem t50 {bs:List UInt8} {o:Own} {c:Int} (hb:bs ≠ []):sIndexByte [.sl 1 (bytesL bs) o,.int .u8 c] = some (.int .i64 (Lib.indexByte bs c.toNat.toUInt8),[]):=by
 have h:=unBytes_mk bs
 have h1:bytesL bs ≠ []:=by simpa [bytesL] using hb
 show (if 1 = 1∧bytesL bs ≠ [] then (unBytes (bytesL bs)).map fun l=>(AV.int .i64 (Lib.indexByte l c.toNat.toUInt8),([]:List (Nat × TypeId))) else none) = _
 rw [if_pos ⟨rfl,h1⟩,h]
 rfl
theorem p128 (m c:Int) (bs:List UInt8) (hb:bs ≠ []):PureOk PQ (GQ m) XL (tbl lib8) (itbl []) nAn [] 128 [.sl 1 (bytesL bs) .no,.int .u8 c] (.int .i64 (Lib.indexByte bs c.toNat.toUInt8),[]):=by
 constructor
 rw [w128]; unfold I6
 exact ⟨_,⟨t50 (o:=.no) hb⟩,⟨rfl⟩⟩
theorem p128f (m c:Int) (bs:List UInt8) (hb:bs ≠ []):PureOk PQ (GQ m) XL (tbl lib8) (itbl []) nAn [] 128 [.sl 1 (bytesL bs) .full,.int .u8 c] (.int .i64 (Lib.indexByte bs c.toNat.toUInt8),[]):=by
 constructor
 rw [w128f]; unfold I6
 exact ⟨_,⟨t50 (o:=.full) hb⟩,⟨rfl⟩⟩
theorem p170 (m c:Int) (l:List UInt8):PureOk PQ (GQ m) XL (tbl lib8) (itbl []) nAn [] 170 [.str l,.int .u8 c] (.int .i64 (Lib.indexByte l c.toNat.toUInt8),[]):=by
 constructor
 rw [w170]; unfold I6
 exact ⟨_,⟨rfl⟩,⟨rfl⟩⟩
theorem p132 (m c:Int) (l:List UInt8):PureOk PQ (GQ m) XL (tbl [(170,sIndexByteString)]) (itbl []) nAn [] 132 [.str l,.int .u8 c] (.int .i64 (Lib.indexByte l c.toNat.toUInt8),[]):=by
 constructor
 rw [w132]; unfold I6
 exact ⟨_,⟨rfl⟩,⟨rfl⟩⟩
theorem any_take_succ {p:UInt8→Bool} {bs:List UInt8} {x:Nat} (hx:x < bs.length):(bs.take (x + 1)).any p = ((bs.take x).any p || p (bs.getD x 0)):=by
 rw [List.take_succ_eq_append_getElem hx,List.any_append]
 simp [hx]
theorem any_of_get {p:UInt8→Bool} {bs:List UInt8} {x:Nat} (hx:x < bs.length) (h:p (bs.getD x 0) = true):bs.any p = true:=by
 rw [List.any_eq_true]
 exact ⟨bs[x],List.getElem_mem hx,by simpa [hx] using h⟩
theorem p131 (m:Int) (bs:List UInt8) (sz:Nat) (hsz:sz = 1) (hl:bs.length≤1000000):PureOk PQ (GQ m) XL (tbl []) (itbl []) (a131 bs) [] 131 [.sl sz (bytesL bs) .no] (.int .i64 (txtErr bs),[]):=by
 constructor
 rw [w131]; unfold I6
 subst hsz
 simp only [valsAre_iff,stIs_iff,retIs_iff,take_u8_iff agg5 size5,Prod.mk.injEq,AV.int.injEq,List.cons.injEq,and_true,true_and,exists_eq_left',and_assoc,exists_and_left,decide_eq_true_eq,decide_eq_false_iff_not,bytesL_length,Int.toNat_natCast,beq_iff_eq,beq_eq_false_iff_ne,ne_eq,gt_iff_lt]
 refine ⟨fun h=>?_,fun h=>⟨⟨0,rfl,by omega,by simp⟩,fun x ⟨hx,hb⟩=>⟨fun hlt=>?_,fun hge=>?_⟩⟩⟩
 ·simp only [txtErr]; rw [if_pos (by omega)]
 ·have hlt':x < bs.length:=by omega
  have hnx:=any_take_succ (p:=badB) hlt'
  have hget:badB (bs.getD x 0) = true→bs.any badB = true:=any_of_get hlt'
  generalize bs.getD x 0 = c at *
  have hbad:badB c = (decide (c.toNat < 32) || decide (126 < c.toNat) || c == 92):=rfl
  have h92:c = 92 ↔ c.toNat = 92:=by rw [← UInt8.toNat_inj]; rfl
  have fin:badB c = true→(3:Int) = txtErr bs:=fun hb'=>by
   simp only [txtErr]
   rw [if_neg (by omega),if_pos (hget hb')]
  refine ⟨by omega,by omega,hlt',fun h1=>fin (by rw [hbad]; simp; omega),fun h1=>⟨fun h2=>fin (by rw [hbad]; simp; omega),fun h2=>⟨fun h3=>fin (by rw [hbad]; simp only [Bool.or_eq_true,decide_eq_true_eq,beq_iff_eq,h92]; omega),fun h3=>⟨x + 1,?_,by omega,?_,by omega⟩⟩⟩⟩
  ·rw [wrap64_in (by omega) (by omega)]; omega
  ·rw [hnx,hb,hbad]
   have:¬ c = 92:=by rw [h92]; omega
   simp [this]
   omega
 ·have hx':x = bs.length:=by omega
  subst hx'
  rw [List.take_length] at hb
  simp only [txtErr]
  rw [if_neg (by omega),if_neg (by simp [hb])]
theorem cls_get (c:UInt8):takeA (some false) (some 1) keptClasses c.toNat = some (.int .u8 (cls c.toNat)):=by
 have h:=c.toNat_lt
 have hlen:keptClasses.length = 256:=by kernel_rfl
 have h2:keptClasses[c.toNat]? = some (.int .u8 (cls c.toNat)):=by
  simp only [keptClasses,List.getElem?_map,List.getElem?_range (show c.toNat < 256 by omega),Option.map_some]
 simp only [takeA,h2]
theorem cls_lt (c:Nat):cls c < 9:=by
 unfold cls
 repeat' split
 all_goals omega
theorem ib_spec:∀ (l:List UInt8) (c:UInt8),(c ∈ l→Lib.indexByte l c = ((l.takeWhile (· != c)).length:Int))∧(c ∉ l→Lib.indexByte l c = -1)
 | [],c=>⟨fun h=>by simp at h,fun _=>rfl⟩
 | b :: l,c=>by
  obtain ⟨h1,h2⟩:=ib_spec l c
  simp only [Lib.indexByte,List.takeWhile_cons]
  by_cases hb:b = c
  ·subst hb
   simp
  ·have hb':(b == c) = false:=by simpa using hb
   have hb2:(b != c) = true:=by simpa using hb
   rw [hb',if_neg (by simp),hb2,if_pos rfl]
   refine ⟨fun h=>?_,fun h=>?_⟩
   ·have hm:c ∈ l:=by
     rcases List.mem_cons.1 h with h | h
     ·exact absurd h.symm hb
     ·exact h
    rw [h1 hm,if_neg (by simp)]
    simp
   ·rw [h2 (fun hm=>h (List.mem_cons_of_mem _ hm))]
    simp
theorem ib_ge {l:List UInt8} {c:UInt8}:0≤Lib.indexByte l c ↔ c ∈ l:=by
 obtain ⟨h1,h2⟩:=ib_spec l c
 by_cases h:c ∈ l
 ·rw [h1 h]; simp [h]
 ·rw [h2 h]; simp [h]
theorem ib_cls {qs:List UInt8} {c:UInt8}:0≤Lib.indexByte qs (cls c.toNat).toUInt8 ↔ inCls (bytesL qs) c = true:=by
 rw [ib_ge,inCls,bytesD_mk,List.any_eq_true]
 have hlt:=cls_lt c.toNat
 constructor
 ·intro h
  exact ⟨_,h,by simp; omega⟩
 ·rintro ⟨x,hx,he⟩
  have:x = (cls c.toNat).toUInt8:=by
   rw [← UInt8.toNat_inj]
   simp at he ⊢
   omega
  rwa [← this]
theorem p0_p1 {n:Nat} {v:AV} (h:v.p0 n = true):v.p1 n = true:=by
 cases v with
 | fn f cap=>simp only [AV.p0,List.isEmpty_iff] at h; subst h; rfl
 | agg cs=>simp [AV.p0] at h
 | _=>first | exact h | rfl
theorem all_p0_p1 {n:Nat} {l:List AV} (h:l.all (AV.p0 n) = true):l.all (AV.p1 n) = true:=by
 rw [List.all_eq_true] at h ⊢
 exact fun x hx=>p0_p1 (h x hx)
theorem p127 (m n:Int) (qs:List UInt8) (bs:List UInt8) (b0 b2:List AV) (p q:Nat × TypeId) (h0:b0.all (AV.p0 5) = true) (h2:b2.all (AV.p0 5) = true) (hn0:0≤n) (hn1:n≤bs.length) (hl:bs.length≤1000000) (hq:qs ≠ []) :
  OpenOk PQ (GQ m) XL (tbl [(128,s128)]) (itbl []) (a127 n (bytesL qs) .full bs (S37 b0 b2 (bytesL bs) p q)) [] 127 [.int .i64 n,.sl 1 (bytesL qs) .full,.ptr 3 0,.ptr 4 0] (S37 b0 b2 (bytesL bs) p q) (.int .i64 (n + runL (bytesL qs) (bs.drop n.toNat)),S37 b0 b2 (bytesL bs) p q):=by
 constructor
 rw [w127]; unfold w127c1 I6
 obtain ⟨k,rfl⟩:∃ k:Nat,n = k:=⟨n.toNat,by omega⟩
 have hok:boxesOk 5 [some b0,some keptClasses,some b2,some [AV.sl 1 (bytesL bs) Own.no],some [AV.ptr 1 0]] = true:=by
  have hk:keptClasses.all (AV.p1 5) = true:=by kernel_rfl
  simp only [boxesOk,Bool.or_true,all_p0_p1 h0,all_p0_p1 h2,hk,Bool.and_true,Bool.true_and]
  rfl
 have t38:∀ c:Nat,tbl [(128,s128)] 128 [.sl 1 (bytesL qs) .full,.int .u8 c] = some (.int .i64 (Lib.indexByte qs c.toUInt8),[]):=fun c=>by
  show s128 [.sl 1 (bytesL qs) .full,.int .u8 c] = _
  show (if 1 = 1∧bytesL qs ≠ [] then onBytes (bytesL qs) fun bs=>some (AV.int .i64 (Lib.indexByte bs ((c:Int)).toNat.toUInt8),([]:List (Nat × TypeId))) else none) = _
  rw [if_pos ⟨rfl,by simpa [bytesL] using hq⟩,onBytes,unBytes_mk]
  rfl
 simp only [Nat.zero_add,valsAre_iff,stIs_iff,retOpen_iff,take_u8_iff agg5 size5,List.cons.injEq,AV.int.injEq,Prod.mk.injEq,and_true,true_and,hok,Bool.and_true,Int.toNat_natCast,bytesL_length,decide_eq_true_eq,decide_eq_false_iff_not]
 refine ⟨⟨0,by omega,by omega⟩,fun x hx=>⟨fun hlt=>⟨by omega,((bs.getD (k + x) 0).toNat:Int),⟨by omega,by rw [show ((k:Int) + x).toNat = k + x by omega]⟩,⟨by omega,by have:=(bs.getD (k + x) 0).toNat_lt; omega⟩,(cls (bs.getD (k + x) 0).toNat:Int),by simpa using cls_get _,_,⟨t38 _⟩,fun hge=>?_,fun hge=>?_⟩,fun hge=>?_⟩⟩
 ·rw [ge_iff_le,ib_cls] at hge
  rw [wrap64_in (by omega) (by omega)]
  refine ⟨x + 1,by omega,?_,by omega⟩
  refine tw_next hx (by rw [List.length_drop]; omega) ?_
  rw [getD_drop']
  exact hge
 ·rw [ge_iff_le,ib_cls] at hge
  have:=tw_stop (p:=inCls (bytesL qs)) (l:=bs.drop k) (k:=x) hx (fun _=>by rw [getD_drop']; simpa using hge)
  simp only [runL]
  rw [← this]
  exact ⟨rfl,rfl⟩
 ·have:=tw_stop (p:=inCls (bytesL qs)) (l:=bs.drop k) (k:=x) hx (fun h=>by rw [List.length_drop] at h; omega)
  simp only [runL]
  rw [← this]
  exact ⟨rfl,rfl⟩
end Go.Abs.Lx
namespace Go.Abs.Lx
open Go.Proofs L8
abbrev w36c7:List AV:=[AV.ptr 0 0,AV.ptr 2 0]
abbrev w36c1 (bs:List UInt8) (y:X36):List AV:=[AV.sl 1 (bytesL bs) Own.no,AV.sl 3 (List.map tokA y.l) (Own.tok 0),AV.ptr 0 0,AV.int IntKind.i64 0,AV.ptr 1 0,AV.ptr 2 0,AV.int IntKind.i64 y.st,AV.fn 85 w36c7]
abbrev w36c2 (y:X36):St:={ boxes:=[some [AV.sl 2 (List.map pbX (List.take 32 y.b)) (Own.tok 1)],some keptClasses,some [AV.int IntKind.i64 (↑y.p:Int)]],live:=[(y.l.length,99),((List.take 32 y.b).length,86)] }
abbrev w36c3 (x:X36) (bs:List UInt8):=piece (List.drop (↑x.p:Int).toNat (bytesD (bytesL bs)))
abbrev w36c4 (bs:List UInt8) (x:X36):List AV:=[AV.sl 1 (bytesL bs) Own.no,AV.sl 3 (List.map tokA x.l) (Own.tok 0),AV.ptr 0 0,AV.int IntKind.i64 0,AV.ptr 1 0,AV.ptr 2 0,AV.int IntKind.i64 (↑x.p:Int),AV.fn 85 w36c7]
abbrev w36c6 (x:X36):=List.map pbX (List.take 32 x.b)
abbrev w36c14 (x:X36):=IntKind.i64.wrap ((↑x.p:Int) + (1:Int))
abbrev w36c5 (x:X36):St:={ boxes:=[some [AV.sl 2 (if (w36c6 x).length < (32:Nat) then List.map pbX (List.take 32 x.b) ++ [AV.agg [I6 (↑x.p:Int),I6 x.code]] else List.map pbX (List.take 32 x.b)) (Own.tok 1)],some keptClasses,some [I6 (w36c14 x)]],live:=[(x.l.length,99),(if (w36c6 x).length < (32:Nat) then (List.take 32 x.b).length + (1:Nat) else (List.take 32 x.b).length,86)] }
abbrev w36c8 (bs:List UInt8) (x:X36) (l:List UInt8):List AV:=[AV.sl 1 (bytesL bs) Own.no,AV.sl 3 (List.map tokA x.l ++ [AV.agg [I6 (w36c3 x bs).fst,AV.str l,I6 (↑x.p:Int)]]) (Own.tok 0),AV.ptr 0 0,I6 0,AV.ptr 1 0,AV.ptr 2 0,I6 x.st,AV.fn 85 w36c7]
abbrev w36c15 (x:X36):List AV:=[AV.sl 2 (w36c6 x) (Own.tok 1)]
abbrev w36c13 (x:X36) (bs:List UInt8):=(↑x.p:Int) + (↑(w36c3 x bs).snd.fst:Int)
abbrev w36c9 (x:X36) (bs:List UInt8):List (Option (List AV)):=[some (w36c15 x),some keptClasses,some [AV.int IntKind.i64 (w36c13 x bs)]]
abbrev w36c10 (bs:List UInt8) (x:X36):List AV:=[AV.sl 1 (bytesL bs) Own.no,AV.sl 3 (List.map tokA x.l) (Own.tok 0),AV.ptr 0 0,AV.int IntKind.i64 0,AV.ptr 1 0,AV.ptr 2 0,AV.int IntKind.i64 x.st,AV.fn 85 w36c7]
abbrev w36c11 (x:X36):Prop:=(List.take 32 x.b).length = (w36c6 x).length∧keptClasses = keptClasses∧(w36c6 x).length≤(1000000:Nat)
abbrev w36c12 (x:X36) (bs:List UInt8):=IntKind.i64.wrap ((↑x.p:Int) + (↑(w36c3 x bs).snd.fst:Int) - (1:Int))
abbrev w36c16 (bs:List UInt8):List AV:=[AV.sl 3 (List.map tokA (toksX bs)) Own.no,AV.sl 2 (List.map pbX (probsL bs)) Own.no,AV.int IntKind.i64 0]
abbrev w36c17 (x:X36) (bs:List UInt8):St:={ boxes:=(w36c9 x bs),live:=[((List.map tokA x.l).length + (1:Nat),99),((List.take 32 x.b).length,86)] }
theorem w36 (m:Int) (bs:List UInt8):(laxW PQ (GQ m) XL (tbl t12) (itbl [(85,s85),(86,s86)]) (a36 bs) [] 36 [bytesA bs] (if bs.length≤16384 then .tup [tkA (toksX bs) .no,badA (probsL bs) .no,.int .i64 0] else .tup [.sl 3 [] .no,.sl 2 [] .no,.int .i64 2],[])) =
(((decide ((↑(bytesL bs).length:Int) > (16384:Int)) = true→RetLax (AV.tup [AV.sl 0 [] Own.nil,AV.sl 0 [] Own.nil,I6 2]) (if bs.length≤(16384:Nat) then AV.tup (w36c16 bs) else AV.tup [AV.sl 3 [] Own.no,AV.sl 2 [] Own.no,I6 2],[]))∧(decide ((↑(bytesL bs).length:Int) > (16384:Int)) = false→CallIs (some (keptClassesA,[])) keptClassesA []∧∃ (y:X36),ValsAre [AV.sl 1 (bytesL bs) Own.no,AV.sl 3 [] (Own.tok 0),AV.ptr 0 0,I6 0,AV.ptr 1 0,AV.ptr 2 0,I6 (-1),AV.fn 85 w36c7] (w36c1 bs y)∧StIs { boxes:=[some [AV.sl 2 [] (Own.tok 1)],some keptClasses,some [I6 0]],live:=[(0,99),(0,86)] } (w36c2 y)∧Inv36 bs y∧True))∧(∀ (x:X36),Inv36 bs x→(((↑x.p:Int) == (↑(bytesL bs).length:Int)) = true→((3:Nat) = (3:Nat)∨List.map tokA x.l = [])∧((List.map tokA x.l).length + (1:Nat)) * (33:Nat)≤(70368744177664:Nat)∧x.l.length = (List.map tokA x.l).length∧RetLax (AV.tup [AV.sl 3 (List.map tokA x.l ++ [AV.agg [I6 6,AV.str [],I6 (↑x.p:Int)]]) (Own.tok 0),AV.sl 2 (w36c6 x) (Own.tok 1),I6 0]) (if bs.length≤(16384:Nat) then AV.tup (w36c16 bs) else AV.tup [AV.sl 3 [] Own.no,AV.sl 2 [] Own.no,I6 2],[]))∧(((↑x.p:Int) == (↑(bytesL bs).length:Int)) = false→(keptClasses = keptClasses∧((w36c15 x).all (AV.p0 3) = true∧[I6 (↑x.p:Int)].all (AV.p0 3) = true)∧∃ (bs_1:List UInt8),bytesL bs = bytesL bs_1∧bs_1.length≤(1000000:Nat)∧(0:Int)≤(↑x.p:Int)∧(↑x.p:Int) < (↑bs_1.length:Int))∧(((w36c3 x bs).fst == (-1:Int)) = true→∃ (y:X36),ValsAre [AV.sl 1 (bytesL bs) Own.no,AV.sl 3 (List.map tokA x.l) (Own.tok 0),AV.ptr 0 0,I6 0,AV.ptr 1 0,AV.ptr 2 0,I6 x.st,AV.fn 85 w36c7,I6 (w36c3 x bs).snd.snd] [AV.sl 1 (bytesL bs) Own.no,AV.sl 3 (List.map tokA y.l) (Own.tok 0),AV.ptr 0 0,I6 0,AV.ptr 1 0,AV.ptr 2 0,I6 y.st,AV.fn 85 w36c7,I6 y.code]∧StIs { boxes:=[some (w36c15 x),some keptClasses,some [I6 (↑x.p:Int)]],live:=[(x.l.length,99),((List.take 32 x.b).length,86)] } (w36c2 y)∧Inv36b bs y∧(2:Nat) * (bs.length - y.p) < (2:Nat) * (bs.length - x.p) + (1:Nat))∧(((w36c3 x bs).fst == (-1:Int)) = false→(((w36c3 x bs).snd.snd != (0:Int)) = true→(w36c11 x)∧∃ (y:X36),ValsAre (w36c10 bs x) (w36c1 bs y)∧StIs { boxes:=[some [AV.sl 2 (if (w36c6 x).length < (32:Nat) then List.map pbX (List.take 32 x.b) ++ [AV.agg [I6 (↑x.p:Int),I6 (w36c3 x bs).snd.snd]] else List.map pbX (List.take 32 x.b)) (Own.tok 1)],some keptClasses,some [I6 (w36c13 x bs)]],live:=[(x.l.length,99),(if (w36c6 x).length < (32:Nat) then (List.take 32 x.b).length + (1:Nat) else (List.take 32 x.b).length,86)] } (w36c2 y)∧Inv36 bs y∧(2:Nat) * (bs.length - y.p) + (1:Nat) < (2:Nat) * (bs.length - x.p) + (1:Nat))∧(((w36c3 x bs).snd.snd != (0:Int)) = false→(((w36c3 x bs).fst == (4:Int)) = true→(0:Int)≤IntKind.i64.wrap ((↑x.p:Int) + (1:Int))∧(0:Int)≤IntKind.i64.wrap ((↑x.p:Int) + (↑(w36c3 x bs).snd.fst:Int) - (1:Int))∧((w36c14 x).toNat≤(w36c12 x bs).toNat∧(w36c12 x bs).toNat≤(bytesL bs).length)∧((1:Nat) = (1:Nat)∨bytesL bs = [])∧((1:Nat) = (1:Nat)∨List.drop (w36c14 x).toNat (List.take (w36c12 x bs).toNat (bytesL bs)) = [])∧∃ (l:List UInt8),List.mapM byteOf (List.drop (w36c14 x).toNat (List.take (w36c12 x bs).toNat (bytesL bs))) = some l∧((3:Nat) = (3:Nat)∨List.map tokA x.l = [])∧((List.map tokA x.l).length + (1:Nat)) * (33:Nat)≤(70368744177664:Nat)∧x.l.length = (List.map tokA x.l).length∧∃ (y:X36),ValsAre (w36c8 bs x l) (w36c1 bs y)∧StIs (w36c17 x bs) (w36c2 y)∧Inv36 bs y∧(2:Nat) * (bs.length - y.p) + (1:Nat) < (2:Nat) * (bs.length - x.p) + (1:Nat))∧(((w36c3 x bs).fst == (4:Int)) = false→(((w36c3 x bs).fst != (0:Int)) = true→(0:Int)≤(↑x.p:Int)∧(0:Int)≤(↑x.p:Int) + (↑(w36c3 x bs).snd.fst:Int)∧((↑x.p:Int).toNat≤(w36c13 x bs).toNat∧(w36c13 x bs).toNat≤(bytesL bs).length)∧((1:Nat) = (1:Nat)∨bytesL bs = [])∧((1:Nat) = (1:Nat)∨List.drop (↑x.p:Int).toNat (List.take (w36c13 x bs).toNat (bytesL bs)) = [])∧∃ (l:List UInt8),List.mapM byteOf (List.drop (↑x.p:Int).toNat (List.take (w36c13 x bs).toNat (bytesL bs))) = some l∧((3:Nat) = (3:Nat)∨List.map tokA x.l = [])∧((List.map tokA x.l).length + (1:Nat)) * (33:Nat)≤(70368744177664:Nat)∧x.l.length = (List.map tokA x.l).length∧∃ (y:X36),ValsAre (w36c8 bs x l) (w36c1 bs y)∧StIs (w36c17 x bs) (w36c2 y)∧Inv36 bs y∧(2:Nat) * (bs.length - y.p) + (1:Nat) < (2:Nat) * (bs.length - x.p) + (1:Nat))∧(((w36c3 x bs).fst != (0:Int)) = false→∃ (y:X36),ValsAre (w36c10 bs x) (w36c1 bs y)∧StIs { boxes:=(w36c9 x bs),live:=[(x.l.length,99),((List.take 32 x.b).length,86)] } (w36c2 y)∧Inv36 bs y∧(2:Nat) * (bs.length - y.p) + (1:Nat) < (2:Nat) * (bs.length - x.p) + (1:Nat)))))))∧(∀ (x:X36),Inv36b bs x→((x.st != IntKind.i64.wrap ((↑x.p:Int) - (1:Int))) = true→(w36c11 x)∧∃ (y:X36),ValsAre (w36c4 bs x) (w36c1 bs y)∧StIs (w36c5 x) (w36c2 y)∧Inv36 bs y∧(2:Nat) * (bs.length - y.p) + (1:Nat) < (2:Nat) * (bs.length - x.p))∧((x.st != IntKind.i64.wrap ((↑x.p:Int) - (1:Int))) = false→(((↑x.p:Int) == (0:Int)) = true→(w36c11 x)∧∃ (y:X36),ValsAre (w36c4 bs x) (w36c1 bs y)∧StIs (w36c5 x) (w36c2 y)∧Inv36 bs y∧(2:Nat) * (bs.length - y.p) + (1:Nat) < (2:Nat) * (bs.length - x.p))∧(((↑x.p:Int) == (0:Int)) = false→∃ (y:X36),ValsAre (w36c4 bs x) (w36c1 bs y)∧StIs { boxes:=[some (w36c15 x),some keptClasses,some [I6 (w36c14 x)]],live:=[(x.l.length,99),((List.take 32 x.b).length,86)] } (w36c2 y)∧Inv36 bs y∧(2:Nat) * (bs.length - y.p) + (1:Nat) < (2:Nat) * (bs.length - x.p))))∧True):=by kernel_rfl
end Go.Abs.Lx
namespace Go.Abs.Lx
open Go.Proofs L8
theorem take32 {α:Type} (l:List α) (e:α):(l ++ [e]).take 32 = if (l.take 32).length < 32 then l.take 32 ++ [e] else l.take 32:=by
 rw [List.length_take]
 by_cases h:l.length < 32
 ·rw [if_pos (by omega),List.take_of_length_le (l:=l) (by omega),List.take_of_length_le (by simp; omega)]
 ·rw [if_neg (by omega),List.take_append_of_le_length (by omega)]
def nextX (bs:List UInt8) (x:X36):X36:=⟨x.l ++ tkOf (bs.drop x.p) x.p,x.b ++ pbOf (bs.drop x.p) x.p x.adj,x.p + (piece (bs.drop x.p)).2.1,false,x.st,0⟩
def oddX (bs:List UInt8) (x:X36):X36:=⟨x.l,x.b ++ pbOf (bs.drop x.p) x.p x.adj,x.p + 1,true,x.p,0⟩
theorem drop_ne {bs:List UInt8} {p:Nat} (h:p < bs.length):bs.drop p ≠ []:=by
 intro e
 have:=congrArg List.length e
 simp at this
 omega
theorem piece_pos' {l:List UInt8} (h:l ≠ []):1≤(piece l).2.1:=by
 cases l with
 | nil=>exact absurd rfl h
 | cons c t=>exact piece_pos c t
theorem next_le {bs:List UInt8} {x:X36} (hp:x.p < bs.length):x.p + (piece (bs.drop x.p)).2.1≤bs.length∧1≤(piece (bs.drop x.p)).2.1:=by
 have h1:=piece_le (bs.drop x.p)
 have h2:=piece_pos' (drop_ne hp)
 rw [List.length_drop] at h1
 omega
theorem inv_next {bs:List UInt8} {x:X36} (h:Inv36 bs x) (hp:x.p < bs.length) (hk:(piece (bs.drop x.p)).1 ≠ -1):Inv36 bs (nextX bs x):=by
 obtain ⟨h01,h02,h1,h2,h3,h4,h5⟩:=h
 obtain ⟨k1,k2⟩:=next_le hp
 have hs:=scan_step (drop_ne hp) x.p x.adj
 have ha:adjOf (bs.drop x.p) = false:=by simp [adjOf,hk]
 rw [List.drop_drop,ha] at hs
 refine ⟨h01,?_,k1,?_,?_,?_,?_⟩
 ·simp only [nextX,List.length_append]
  have:(tkOf (bs.drop x.p) x.p).length≤1:=by unfold tkOf; split <;> simp
  omega
 ·rw [← h2,hs]; simp only [nextX,List.append_assoc]
 ·rw [← h3,hs]; simp only [nextX,List.append_assoc]
 ·simp only [nextX]; constructor
  ·intro h; cases h
  ·rintro ⟨h,_⟩; omega
 ·simp only [nextX]; omega
theorem piece_un {c:UInt8} {t:List UInt8} (h:(piece (c :: t)).1 = -1):(piece (c :: t)).2.1 = 1∧(piece (c :: t)).2.2 = 80:=by
  simp only [piece] at h ⊢
  repeat' split at h
  all_goals first
    | (exfalso; revert h; simp; done)
    | (simp_all; done)
    | (rename_i h1 h2 h3 h4 h5 h6 h7
       rw [if_neg h1,if_neg h2,if_neg h3,if_neg h4,if_neg h5,if_neg h6,if_neg h7]
       exact ⟨rfl,rfl⟩)
theorem tkOf_un {l:List UInt8} {a:Nat} (h:(piece l).1 = -1):tkOf l a = []:=by simp [tkOf,h]
theorem inv_odd {bs:List UInt8} {x:X36} (h:Inv36 bs x) (hp:x.p < bs.length) (hk:(piece (bs.drop x.p)).1 = -1):Inv36 bs (oddX bs x):=by
 obtain ⟨h01,h02,h1,h2,h3,h4,h5⟩:=h
 obtain ⟨k1,k2⟩:=next_le hp
 have hs:=scan_step (drop_ne hp) x.p x.adj
 have ha:adjOf (bs.drop x.p) = true:=by simp [adjOf,hk]
 have hone:(piece (bs.drop x.p)).2.1 = 1:=by
  cases hd:bs.drop x.p with
  | nil=>exact absurd hd (drop_ne hp)
  | cons c t=>rw [hd] at hk; exact (piece_un hk).1
 rw [List.drop_drop,ha,hone,tkOf_un hk] at hs
 refine ⟨h01,by simp only [oddX]; omega,by simp only [oddX]; omega,?_,?_,?_,?_⟩
 ·rw [← h2,hs]; simp only [oddX,List.nil_append]
 ·rw [← h3,hs]; simp only [oddX,List.append_assoc]
 ·simp [oddX]
 ·simp only [oddX]; omega
theorem byteOf_mk (c:UInt8):byteOf (.int .u8 c.toNat) = some c:=by
 have h:=c.toNat_lt
 simp [byteOf]
theorem mapByte:∀ (l:List UInt8),(bytesL l).mapM byteOf = some l
 | []=>rfl
 | c :: l=>by
  have ih:=mapByte l
  simp only [bytesL,List.map_cons] at ih ⊢
  rw [List.mapM_cons,byteOf_mk,ih]
  rfl
theorem drop_take_bytes (bs:List UInt8) (i j:Nat):((bytesL bs).take j).drop i = bytesL ((bs.take j).drop i):=by
 simp [bytesL,List.map_take,List.map_drop]
theorem txt4 {bs:List UInt8} {p:Nat} (h:(piece (bs.drop p)).1 = 4):(bs.take (p + (piece (bs.drop p)).2.1 - 1)).drop (p + 1) = txtOf (bs.drop p):=by
 rw [txtOf,if_pos h,List.drop_take]
 rw [show p + (piece (bs.drop p)).2.1 - 1 - (p + 1) = (piece (bs.drop p)).2.1 - 2 by omega]
 generalize (piece (bs.drop p)).2.1 = n
 rw [List.drop_take,List.drop_drop,List.take_take]
 congr 1
 omega
theorem txtn {bs:List UInt8} {p:Nat} (h:(piece (bs.drop p)).1 ≠ 4):(bs.take (p + (piece (bs.drop p)).2.1)).drop p = txtOf (bs.drop p):=by
 rw [txtOf,if_neg h,List.drop_take]
 congr 1
 omega
theorem piece_four {l:List UInt8} (h:(piece l).1 = 4):2≤(piece l).2.1:=by
 cases l with
 | nil=>simp [piece] at h
 | cons c t =>
  simp only [piece] at h ⊢
  repeat' split at h
  all_goals first | (exfalso; revert h; simp; done) | (simp_all; done)
def r12 (bs:List UInt8):AV × List (Nat × TypeId):=(if bs.length≤16384 then .tup [tkA (toksX bs) .no,badA (probsL bs) .no,.int .i64 0] else .tup [.sl 3 [] .no,.sl 2 [] .no,.int .i64 2],[])
theorem p36 (m:Int) (bs:List UInt8):LaxOk PQ (GQ m) XL (tbl t12) (itbl [(85,s85),(86,s86)]) (a36 bs) [] 36 [bytesA bs] (r12 bs):=by
 constructor
 unfold r12
 rw [w36]; unfold w36c17 w36c16 w36c12 w36c11 w36c10 w36c9 w36c13 w36c15 w36c8 w36c5 w36c14 w36c6 w36c4 w36c3 w36c2 w36c1 w36c7 I6
 simp only [bytesD_mk,Int.toNat_natCast,List.length_map,valsAre_iff,stIs_iff,retLax_iff,decide_eq_true_eq,decide_eq_false_iff_not,gt_iff_lt,true_or,true_and,and_true,List.cons.injEq,AV.sl.injEq,AV.int.injEq,Option.some.injEq,Prod.mk.injEq,St.mk.injEq,beq_iff_eq,bne_iff_ne,beq_eq_false_iff_ne,bne_eq_false_iff_eq,ne_eq]
 have lx:∀ {A B C D},A = C→B = D→Lax2 (AV.tup [AV.sl 3 A (.tok 0),AV.sl 2 B (.tok 1),AV.int .i64 0]) (AV.tup [AV.sl 3 C .no,AV.sl 2 D .no,AV.int .i64 0]):=fun h1 h2=>by
  subst h1; subst h2
  simp [Lax2,all2,Lax1,Lax0]
 refine ⟨⟨fun h=>?_,fun h=>⟨⟨rfl⟩,⟨[],[],0,false,-1,0⟩,⟨rfl,rfl⟩,⟨⟨rfl,rfl⟩,rfl,rfl⟩,?_⟩⟩,fun x hx=>⟨fun h=>?_,fun h=>⟨⟨⟨rfl,rfl⟩,bs,rfl,?_,?_,?_⟩,fun hk=>?_,fun hk=>⟨fun he=>?_,fun he=>⟨fun h4=>?_,fun h4=>⟨fun h0=>?_,fun h0=>?_⟩⟩⟩⟩⟩,fun x hx=>?_⟩
 ·rw [if_neg (by omega)]
  exact ⟨by simp [Lax2,all2,Lax1,Lax0],rfl⟩
 ·refine ⟨by omega,Nat.le_refl _,Nat.zero_le _,rfl,rfl,by simp,by simp⟩
 ·obtain ⟨h01,h02,h1,h2,h3,h4,h5⟩:=hx
  have hp:x.p = bs.length:=by omega
  rw [if_pos h01]
  have hd:bs.drop x.p = []:=by rw [hp]; simp
  rw [hd,scan_nil] at h2 h3
  simp only [List.append_nil] at h2 h3
  refine ⟨by omega,lx ?_ ?_,rfl⟩
  ·simp only [toksX,List.map_append,List.map_cons,List.map_nil,← h2,← hp]; rfl
  ·simp only [probsL,← h3]
 ·have:=hx.small; omega
 ·omega
 ·have:=hx.p; omega
 ·have hp:x.p < bs.length:=by have:=hx.p; omega
  have hu:(piece (bs.drop x.p)).2.2 = 80:=by
   cases hd:bs.drop x.p with
   | nil=>exact absurd hd (drop_ne hp)
   | cons c t=>rw [hd] at hk; exact (piece_un hk).2
  exact ⟨{ x with code:=80 },⟨rfl,rfl,hu⟩,⟨⟨rfl,rfl⟩,rfl,rfl⟩,⟨⟨hx.small,hx.len,hx.p,hx.l,hx.b,hx.st,hx.lt⟩,hp,hk,rfl⟩,by simp only; omega⟩
 ·have hp:x.p < bs.length:=by have:=hx.p; omega
  have hn:=next_le hp
  have hpb:pbOf (bs.drop x.p) x.p x.adj = [⟨x.p,(piece (bs.drop x.p)).2.2⟩]:=by simp only [pbOf,if_neg hk,if_neg he]
  have htk:tkOf (bs.drop x.p) x.p = []:=by simp [tkOf,he]
  refine ⟨by simp; omega,nextX bs x,⟨by simp only [nextX,htk,List.append_nil],rfl⟩,⟨⟨?_,by simp only [nextX]; omega⟩,by simp only [nextX,htk,List.append_nil],?_⟩,inv_next hx hp hk,by simp only [nextX]; omega⟩
  ·simp only [nextX,hpb,take32]
   split
   ·simp only [List.map_append,List.map_cons,List.map_nil]; rfl
   ·rfl
  ·simp only [nextX,hpb,take32]
   split <;> simp
 ·have hp:x.p < bs.length:=by have:=hx.p; omega
  have hn:=next_le hp
  have h2:=piece_four h4
  have hpb:pbOf (bs.drop x.p) x.p x.adj = []:=by simp only [pbOf,if_neg hk,if_pos he]
  have htk:tkOf (bs.drop x.p) x.p = [⟨(piece (bs.drop x.p)).1,txtOf (bs.drop x.p),x.p⟩]:=by simp only [tkOf]; rw [if_pos ⟨hk,he,by omega⟩]
  have hsm:=hx.small
  have hln:=hx.len
  rw [wrap64_in (n:=(x.p:Int) + 1) (by omega) (by omega),wrap64_in (n:=(x.p:Int) + (piece (bs.drop x.p)).2.1 - 1) (by omega) (by omega)]
  rw [show ((x.p:Int) + 1).toNat = x.p + 1 by omega,show ((x.p:Int) + (piece (bs.drop x.p)).2.1 - 1).toNat = x.p + (piece (bs.drop x.p)).2.1 - 1 by omega,drop_take_bytes,txt4 h4,mapByte]
  refine ⟨by omega,by omega,by omega,_,rfl,by omega,nextX bs x,⟨?_,rfl⟩,⟨⟨by simp only [nextX,hpb,List.append_nil],by simp only [nextX]; omega⟩,by simp only [nextX,htk,List.length_append]; rfl,by simp only [nextX,hpb,List.append_nil]⟩,inv_next hx hp hk,by simp only [nextX]; omega⟩
  simp only [nextX,htk,List.map_append,List.map_cons,List.map_nil]
  rfl
 ·have hp:x.p < bs.length:=by have:=hx.p; omega
  have hn:=next_le hp
  have hpb:pbOf (bs.drop x.p) x.p x.adj = []:=by simp only [pbOf,if_neg hk,if_pos he]
  have htk:tkOf (bs.drop x.p) x.p = [⟨(piece (bs.drop x.p)).1,txtOf (bs.drop x.p),x.p⟩]:=by simp only [tkOf]; rw [if_pos ⟨hk,he,h0⟩]
  have hsm:=hx.small
  have hln:=hx.len
  rw [show ((x.p:Int) + (piece (bs.drop x.p)).2.1).toNat = x.p + (piece (bs.drop x.p)).2.1 by omega,drop_take_bytes,txtn h4,mapByte]
  refine ⟨by omega,by omega,by omega,_,rfl,by omega,nextX bs x,⟨?_,rfl⟩,⟨⟨by simp only [nextX,hpb,List.append_nil],by simp only [nextX]; omega⟩,by simp only [nextX,htk,List.length_append]; rfl,by simp only [nextX,hpb,List.append_nil]⟩,inv_next hx hp hk,by simp only [nextX]; omega⟩
  simp only [nextX,htk,List.map_append,List.map_cons,List.map_nil]
  rfl
 ·have hp:x.p < bs.length:=by have:=hx.p; omega
  have hn:=next_le hp
  have hpb:pbOf (bs.drop x.p) x.p x.adj = []:=by simp only [pbOf,if_neg hk,if_pos he]
  have htk:tkOf (bs.drop x.p) x.p = []:=by simp [tkOf,h0]
  exact ⟨nextX bs x,⟨by simp only [nextX,htk,List.append_nil],rfl⟩,⟨⟨by simp only [nextX,hpb,List.append_nil],by simp only [nextX]; omega⟩,by simp only [nextX,htk,List.append_nil],by simp only [nextX,hpb,List.append_nil]⟩,inv_next hx hp hk,by simp only [nextX]; omega⟩
 ·obtain ⟨hi,hp,hun,hcode⟩:=hx
  have hsm:=hi.small
  have hst:=hi.st
  rw [wrap64_in (n:=(x.p:Int) - 1) (by omega) (by omega),wrap64_in (n:=(x.p:Int) + 1) (by omega) (by omega)]
  have rep:x.adj = false→((if (List.take 32 x.b).length < 32 then List.map pbX (List.take 32 x.b) ++ [AV.agg [AV.int .i64 x.p,AV.int .i64 x.code]] else List.map pbX (List.take 32 x.b)) = List.map pbX (List.take 32 (oddX bs x).b)∧(if (List.take 32 x.b).length < 32 then (List.take 32 x.b).length + 1 else (List.take 32 x.b).length) = (List.take 32 (oddX bs x).b).length):=fun ha=>by
   have hpb:pbOf (bs.drop x.p) x.p x.adj = [⟨x.p,80⟩]:=by simp only [pbOf,if_pos hun,ha]; rfl
   simp only [oddX,hpb,take32,hcode]
   constructor
   ·split
    ·simp only [List.map_append,List.map_cons,List.map_nil]; rfl
    ·rfl
   ·split <;> simp
  refine ⟨fun h=>?_,fun h=>⟨fun h0=>?_,fun h0=>?_⟩⟩
  ·have ha:x.adj = false:=by
    cases ha:x.adj with
    | false=>rfl
    | true=>exact absurd (hst.1 ha).1 (by omega)
   exact ⟨by simp; omega,oddX bs x,⟨rfl,rfl⟩,⟨⟨(rep ha).1,by simp only [oddX]; omega⟩,rfl,(rep ha).2⟩,inv_odd hi hp hun,by simp only [oddX]; omega⟩
  ·have ha:x.adj = false:=by
    cases ha:x.adj with
    | false=>rfl
    | true=>exact absurd (hst.1 ha).2 (by omega)
   exact ⟨by simp; omega,oddX bs x,⟨rfl,rfl⟩,⟨⟨(rep ha).1,by simp only [oddX]; omega⟩,rfl,(rep ha).2⟩,inv_odd hi hp hun,by simp only [oddX]; omega⟩
  ·have ha:x.adj = true:=hst.2 ⟨by omega,by omega⟩
   have hpb:pbOf (bs.drop x.p) x.p x.adj = []:=by simp only [pbOf,if_pos hun,ha]; rfl
   exact ⟨oddX bs x,⟨rfl,rfl⟩,⟨⟨by simp only [oddX,hpb,List.append_nil],by simp only [oddX]; omega⟩,rfl,by simp only [oddX,hpb,List.append_nil]⟩,inv_odd hi hp hun,by simp only [oddX]; omega⟩
end Go.Abs.Lx
namespace Go.Abs.Lx
open Go.Proofs L8
abbrev w86c5 (b0:List AV) (b2:List AV) (p:Nat × TypeId) (q:Nat × TypeId):St:={ boxes:=[some b0,some keptClasses,some b2],live:=[p,q] }
abbrev w86c1 (n:Int) (bs:List UInt8) (b0:List AV) (b2:List AV) (p:Nat × TypeId) (q:Nat × TypeId):AV × St:=(AV.tup [I6 (piece (List.drop n.toNat bs)).fst,I6 (n + (↑(piece (List.drop n.toNat bs)).snd.fst:Int)),I6 (piece (List.drop n.toNat bs)).snd.snd],(w86c5 b0 b2 p q))
abbrev w86c2 (n:Int) (bs:List UInt8):=(↑(runL [AV.int IntKind.u8 3] (List.drop n.toNat (bytesD (bytesL bs)))):Int)
abbrev w86c18 (n:Int) (bs:List UInt8):Prop:=(0:Int)≤n∧n < (↑(bytesL bs).length:Int)
abbrev w86c17 (n:Int):=AV.tup [I6 5,I6 (IntKind.i64.wrap (IntKind.i64.wrap (n + (1:Int)) + (1:Int))),I6 0]
abbrev w86c7 (n:Int):=AV.tup [I6 5,I6 (IntKind.i64.wrap (n + (1:Int))),I6 0]
abbrev w86c4 (n:Int):=AV.tup [I6 (-1),I6 (IntKind.i64.wrap (n + (1:Int))),I6 80]
abbrev w86c11 (n:Int) (b0:List AV) (b2:List AV):=AV.p2 3 (w86c4 n) && boxesOk 3 [some b0,some keptClasses,some b2]
abbrev w86c3 (n:Int) (bs:List UInt8) (b0:List AV) (b2:List AV) (p:Nat × TypeId) (q:Nat × TypeId):Prop:=decide (IntKind.i64.wrap (n + (1:Int)) < (↑(bytesL bs).length:Int)) = true→((0:Int)≤IntKind.i64.wrap (n + (1:Int))∧IntKind.i64.wrap (n + (1:Int)) < (↑(bytesL bs).length:Int))∧∃ (n_3:Int),takeAt PQ 5 (bytesL bs) (IntKind.i64.wrap (n + (1:Int))).toNat 0 = some (AV.int IntKind.u8 n_3)∧((n_3 == (61:Int)) = true→(w86c18 n bs)∧∃ (n_4:Int),takeAt PQ 5 (bytesL bs) n.toNat 0 = some (AV.int IntKind.u8 n_4)∧∃ (n_5:Int),CallIs (some (AV.int IntKind.i64 (Lib.indexByte [(61:UInt8),(33:UInt8),(60:UInt8)] n_4.toNat.toUInt8),[])) (AV.int IntKind.i64 n_5) []∧(decide (n_5 ≥ (0:Int)) = true→RetOpen (AV.p2 3 (w86c17 n) && boxesOk 3 [some b0,some keptClasses,some b2]) (w86c17 n) (w86c5 b0 b2 p q) (w86c1 n bs b0 b2 p q))∧(decide (n_5 ≥ (0:Int)) = false→(w86c18 n bs)∧∃ (n_6:Int),takeAt PQ 5 (bytesL bs) n.toNat 0 = some (AV.int IntKind.u8 n_6)∧((n_6 != (33:Int)) = true→RetOpen (AV.p2 3 (w86c7 n) && boxesOk 3 [some b0,some keptClasses,some b2]) (w86c7 n) (w86c5 b0 b2 p q) (w86c1 n bs b0 b2 p q))∧((n_6 != (33:Int)) = false→RetOpen (w86c11 n b0 b2) (w86c4 n) (w86c5 b0 b2 p q) (w86c1 n bs b0 b2 p q))))∧((n_3 == (61:Int)) = false→(w86c18 n bs)∧∃ (n_4:Int),takeAt PQ 5 (bytesL bs) n.toNat 0 = some (AV.int IntKind.u8 n_4)∧((n_4 != (33:Int)) = true→RetOpen (AV.p2 3 (w86c7 n) && boxesOk 3 [some b0,some keptClasses,some b2]) (w86c7 n) (w86c5 b0 b2 p q) (w86c1 n bs b0 b2 p q))∧((n_4 != (33:Int)) = false→RetOpen (w86c11 n b0 b2) (w86c4 n) (w86c5 b0 b2 p q) (w86c1 n bs b0 b2 p q)))
abbrev w86c6 (n:Int) (bs:List UInt8):=(↑(runL [AV.int IntKind.u8 3] (List.drop (IntKind.i64.wrap (n + (w86c2 n bs) + (1:Int))).toNat (bytesD (bytesL bs)))):Int)
abbrev w86c8 (n:Int) (bs:List UInt8):=(↑(runL [AV.int IntKind.u8 2,AV.int IntKind.u8 3,AV.int IntKind.u8 4] (List.drop n.toNat (bytesD (bytesL bs)))):Int)
abbrev w86c9 (n:Int) (bs:List UInt8) (b0:List AV) (b2:List AV) (p:Nat × TypeId) (q:Nat × TypeId):Prop:=decide (IntKind.i64.wrap (n + (1:Int)) < (↑(bytesL bs).length:Int)) = false→(w86c18 n bs)∧∃ (n_3:Int),takeAt PQ 5 (bytesL bs) n.toNat 0 = some (AV.int IntKind.u8 n_3)∧((n_3 != (33:Int)) = true→RetOpen (AV.p2 3 (w86c7 n) && boxesOk 3 [some b0,some keptClasses,some b2]) (w86c7 n) (w86c5 b0 b2 p q) (w86c1 n bs b0 b2 p q))∧((n_3 != (33:Int)) = false→RetOpen (w86c11 n b0 b2) (w86c4 n) (w86c5 b0 b2 p q) (w86c1 n bs b0 b2 p q))
abbrev w86c10 (b0:List AV) (b2:List AV) (bs:List UInt8) (n:Int):Prop:=keptClasses = keptClasses∧(b0.all (AV.p0 5) = true∧b2.all (AV.p0 5) = true)∧(∃ (bs_1:List UInt8),bytesL bs = bytesL bs_1∧bs_1.length≤(1000000:Nat)∧(0:Int)≤IntKind.i64.wrap (n + (w86c2 n bs) + (1:Int))∧IntKind.i64.wrap (n + (w86c2 n bs) + (1:Int))≤(↑bs_1.length:Int))∧∃ (qs:List UInt8),[AV.int IntKind.u8 3] = bytesL qs∧qs ≠ []
abbrev w86c12 (l:List UInt8):=tbl [(128,s128),(129,s129),(130,s130),(131,s131),(132,s132)] 129 [AV.int IntKind.i64 2,AV.str l]
abbrev w86c13 (n:Int) (bs:List UInt8):=IntKind.i64.wrap (n + (w86c2 n bs) + (1:Int)) + (w86c6 n bs)
abbrev w86c14 (n:Int) (bs:List UInt8) (n_4:Int):=AV.tup [I6 2,I6 (n + (w86c2 n bs)),I6 n_4]
abbrev w86c15 (bs:List UInt8):Prop:=(1:Nat) = (1:Nat)∨bytesL bs = []
abbrev w86c16 (n:Int) (bs:List UInt8):=List.take (n + (w86c2 n bs)).toNat (bytesL bs)
abbrev w86c19 (n:Int) (bs:List UInt8):Prop:=n.toNat≤(n + (w86c2 n bs)).toNat∧(n + (w86c2 n bs)).toNat≤(bytesL bs).length
abbrev w86c20 (n:Int):=AV.tup [I6 0,I6 (IntKind.i64.wrap (n + (1:Int))),I6 0]
theorem w86 (m n:Int) (bs:List UInt8) (b0 b2:List AV) (p q:Nat × TypeId):(openW PQ (GQ m) XL (tbl t29) (itbl [(127,s127)]) nAn [] 86 [.sl 1 (bytesL bs) .no,.int .i64 n,.ptr 1 0] (S29 b0 b2 p q) (.tup [.int .i64 (piece (bs.drop n.toNat)).1,.int .i64 (n + (piece (bs.drop n.toNat)).2.1),.int .i64 (piece (bs.drop n.toNat)).2.2],S29 b0 b2 p q)) =
((w86c18 n bs)∧∃ (n_1:Int),takeAt PQ 5 (bytesL bs) n.toNat 0 = some (AV.int IntKind.u8 n_1)∧((0:Int)≤n_1∧n_1 < (256:Int))∧∃ (n_2:Int),takeA (some false) (some 1) keptClasses ((0:Nat) + n_1.toNat * (1:Nat)) = some (AV.int IntKind.u8 n_2)∧((n_2 == (1:Int)) = true→RetOpen (AV.p2 3 (w86c20 n) && boxesOk 3 [some b0,some keptClasses,some b2]) (w86c20 n) (w86c5 b0 b2 p q) (w86c1 n bs b0 b2 p q))∧((n_2 == (1:Int)) = false→((n_2 == (6:Int)) = true→(0:Int)≤n∧(n.toNat≤(bytesL bs).length∧(bytesL bs).length≤(bytesL bs).length)∧(w86c15 bs)∧∃ (n_3:Int),CallIs (tbl [(128,s128),(129,s129),(130,s130),(131,s131),(132,s132)] 128 [AV.sl 1 (List.drop n.toNat (List.take (bytesL bs).length (bytesL bs))) Own.no,AV.int IntKind.u8 10]) (I6 n_3) []∧(decide (n_3 ≥ (0:Int)) = true→RetOpen (AV.p2 3 (AV.tup [I6 0,I6 (IntKind.i64.wrap (n + n_3)),I6 0]) && boxesOk 3 [some b0,some keptClasses,some b2]) (AV.tup [I6 0,I6 (IntKind.i64.wrap (n + n_3)),I6 0]) (w86c5 b0 b2 p q) (w86c1 n bs b0 b2 p q))∧(decide (n_3 ≥ (0:Int)) = false→RetOpen (AV.p2 3 (AV.tup [I6 0,I6 (↑(bytesL bs).length:Int),I6 0]) && boxesOk 3 [some b0,some keptClasses,some b2]) (AV.tup [I6 0,I6 (↑(bytesL bs).length:Int),I6 0]) (w86c5 b0 b2 p q) (w86c1 n bs b0 b2 p q)))∧((n_2 == (6:Int)) = false→((n_2 == (2:Int)) = true→(keptClasses = keptClasses∧(b0.all (AV.p0 5) = true∧b2.all (AV.p0 5) = true)∧(∃ (bs_1:List UInt8),bytesL bs = bytesL bs_1∧bs_1.length≤(1000000:Nat)∧(0:Int)≤n∧n≤(↑bs_1.length:Int))∧∃ (qs:List UInt8),[AV.int IntKind.u8 2,AV.int IntKind.u8 3,AV.int IntKind.u8 4] = bytesL qs∧qs ≠ [])∧(decide (IntKind.i64.wrap (n + (w86c8 n bs) - n) > (24:Int)) = true→RetOpen (AV.p2 3 (AV.tup [I6 1,I6 (n + (w86c8 n bs)),I6 2]) && boxesOk 3 [some b0,some keptClasses,some b2]) (AV.tup [I6 1,I6 (n + (w86c8 n bs)),I6 2]) (w86c5 b0 b2 p q) (w86c1 n bs b0 b2 p q))∧(decide (IntKind.i64.wrap (n + (w86c8 n bs) - n) > (24:Int)) = false→RetOpen (AV.p2 3 (AV.tup [I6 1,I6 (n + (w86c8 n bs)),I6 0]) && boxesOk 3 [some b0,some keptClasses,some b2]) (AV.tup [I6 1,I6 (n + (w86c8 n bs)),I6 0]) (w86c5 b0 b2 p q) (w86c1 n bs b0 b2 p q)))∧((n_2 == (2:Int)) = false→((n_2 == (3:Int)) = true→(keptClasses = keptClasses∧(b0.all (AV.p0 5) = true∧b2.all (AV.p0 5) = true)∧(∃ (bs_1:List UInt8),bytesL bs = bytesL bs_1∧bs_1.length≤(1000000:Nat)∧(0:Int)≤n∧n≤(↑bs_1.length:Int))∧∃ (qs:List UInt8),[AV.int IntKind.u8 3] = bytesL qs∧qs ≠ [])∧(decide (n + (w86c2 n bs) < (↑(bytesL bs).length:Int)) = true→((0:Int)≤n + (w86c2 n bs)∧n + (w86c2 n bs) < (↑(bytesL bs).length:Int))∧∃ (n_3:Int),takeAt PQ 5 (bytesL bs) (n + (w86c2 n bs)).toNat 0 = some (AV.int IntKind.u8 n_3)∧((n_3 == (46:Int)) = true→(w86c10 b0 b2 bs n)∧(decide (IntKind.i64.wrap (n + (w86c2 n bs) + (1:Int)) + (w86c6 n bs) > IntKind.i64.wrap (n + (w86c2 n bs) + (1:Int))) = true→(w86c10 b0 b2 bs n)∧(0:Int)≤n∧(0:Int)≤IntKind.i64.wrap (n + (w86c2 n bs) + (1:Int)) + (w86c6 n bs)∧(n.toNat≤(w86c13 n bs).toNat∧(w86c13 n bs).toNat≤(bytesL bs).length)∧(w86c15 bs)∧((1:Nat) = (1:Nat)∨List.drop n.toNat (List.take (w86c13 n bs).toNat (bytesL bs)) = [])∧∃ (l:List UInt8),List.mapM byteOf (List.drop n.toNat (List.take (w86c13 n bs).toNat (bytesL bs))) = some l∧∃ (n_4:Int),CallIs (tbl [(128,s128),(129,s129),(130,s130),(131,s131),(132,s132)] 129 [I6 3,AV.str l]) (I6 n_4) []∧RetOpen (AV.p2 3 (AV.tup [I6 3,I6 (w86c13 n bs),I6 n_4]) && boxesOk 3 [some b0,some keptClasses,some b2]) (AV.tup [I6 3,I6 (w86c13 n bs),I6 n_4]) (w86c5 b0 b2 p q) (w86c1 n bs b0 b2 p q))∧(decide (IntKind.i64.wrap (n + (w86c2 n bs) + (1:Int)) + (w86c6 n bs) > IntKind.i64.wrap (n + (w86c2 n bs) + (1:Int))) = false→(0:Int)≤n∧(0:Int)≤n + (w86c2 n bs)∧(w86c19 n bs)∧(w86c15 bs)∧((1:Nat) = (1:Nat)∨List.drop n.toNat (w86c16 n bs) = [])∧∃ (l:List UInt8),List.mapM byteOf (List.drop n.toNat (w86c16 n bs)) = some l∧∃ (n_4:Int),CallIs (w86c12 l) (I6 n_4) []∧RetOpen (AV.p2 3 (w86c14 n bs n_4) && boxesOk 3 [some b0,some keptClasses,some b2]) (w86c14 n bs n_4) (w86c5 b0 b2 p q) (w86c1 n bs b0 b2 p q)))∧((n_3 == (46:Int)) = false→(0:Int)≤n∧(0:Int)≤n + (w86c2 n bs)∧(w86c19 n bs)∧(w86c15 bs)∧((1:Nat) = (1:Nat)∨List.drop n.toNat (w86c16 n bs) = [])∧∃ (l:List UInt8),List.mapM byteOf (List.drop n.toNat (w86c16 n bs)) = some l∧∃ (n_4:Int),CallIs (w86c12 l) (I6 n_4) []∧RetOpen (AV.p2 3 (w86c14 n bs n_4) && boxesOk 3 [some b0,some keptClasses,some b2]) (w86c14 n bs n_4) (w86c5 b0 b2 p q) (w86c1 n bs b0 b2 p q)))∧(decide (n + (w86c2 n bs) < (↑(bytesL bs).length:Int)) = false→(0:Int)≤n∧(0:Int)≤n + (w86c2 n bs)∧(w86c19 n bs)∧(w86c15 bs)∧((1:Nat) = (1:Nat)∨List.drop n.toNat (w86c16 n bs) = [])∧∃ (l:List UInt8),List.mapM byteOf (List.drop n.toNat (w86c16 n bs)) = some l∧∃ (n_3:Int),CallIs (w86c12 l) (I6 n_3) []∧RetOpen (AV.p2 3 (AV.tup [I6 2,I6 (n + (w86c2 n bs)),I6 n_3]) && boxesOk 3 [some b0,some keptClasses,some b2]) (AV.tup [I6 2,I6 (n + (w86c2 n bs)),I6 n_3]) (w86c5 b0 b2 p q) (w86c1 n bs b0 b2 p q)))∧((n_2 == (3:Int)) = false→((n_2 == (5:Int)) = true→(0:Int)≤IntKind.i64.wrap (n + (1:Int))∧((IntKind.i64.wrap (n + (1:Int))).toNat≤(bytesL bs).length∧(bytesL bs).length≤(bytesL bs).length)∧(w86c15 bs)∧∃ (n_3:Int),CallIs (tbl [(128,s128),(129,s129),(130,s130),(131,s131),(132,s132)] 130 [AV.sl 1 (List.drop (IntKind.i64.wrap (n + (1:Int))).toNat (List.take (bytesL bs).length (bytesL bs))) Own.no,AV.str [34,10]]) (I6 n_3) []∧(decide (n_3 < (0:Int)) = true→RetOpen (w86c11 n b0 b2) (w86c4 n) (w86c5 b0 b2 p q) (w86c1 n bs b0 b2 p q))∧(decide (n_3 < (0:Int)) = false→((0:Int)≤IntKind.i64.wrap (IntKind.i64.wrap (n + (1:Int)) + n_3)∧IntKind.i64.wrap (IntKind.i64.wrap (n + (1:Int)) + n_3) < (↑(bytesL bs).length:Int))∧∃ (n_4:Int),takeAt PQ 5 (bytesL bs) (IntKind.i64.wrap (IntKind.i64.wrap (n + (1:Int)) + n_3)).toNat 0 = some (AV.int IntKind.u8 n_4)∧((n_4 == (10:Int)) = true→RetOpen (w86c11 n b0 b2) (w86c4 n) (w86c5 b0 b2 p q) (w86c1 n bs b0 b2 p q))∧((n_4 == (10:Int)) = false→(0:Int)≤IntKind.i64.wrap (n + (1:Int))∧(0:Int)≤IntKind.i64.wrap (IntKind.i64.wrap (n + n_3) + (1:Int))∧((IntKind.i64.wrap (n + (1:Int))).toNat≤(IntKind.i64.wrap (IntKind.i64.wrap (n + n_3) + (1:Int))).toNat∧(IntKind.i64.wrap (IntKind.i64.wrap (n + n_3) + (1:Int))).toNat≤(bytesL bs).length)∧(w86c15 bs)∧∃ (n_5:Int),CallIs (tbl [(128,s128),(129,s129),(130,s130),(131,s131),(132,s132)] 131 [AV.sl 1 (List.drop (IntKind.i64.wrap (n + (1:Int))).toNat (List.take (IntKind.i64.wrap (IntKind.i64.wrap (n + n_3) + (1:Int))).toNat (bytesL bs))) Own.no]) (I6 n_5) []∧RetOpen (AV.p2 3 (AV.tup [I6 4,I6 (IntKind.i64.wrap (IntKind.i64.wrap (n + n_3) + (2:Int))),I6 n_5]) && boxesOk 3 [some b0,some keptClasses,some b2]) (AV.tup [I6 4,I6 (IntKind.i64.wrap (IntKind.i64.wrap (n + n_3) + (2:Int))),I6 n_5]) (w86c5 b0 b2 p q) (w86c1 n bs b0 b2 p q))))∧((n_2 == (5:Int)) = false→((n_2 == (7:Int)) = true→(w86c3 n bs b0 b2 p q)∧(w86c9 n bs b0 b2 p q))∧((n_2 == (7:Int)) = false→((n_2 == (8:Int)) = true→(w86c3 n bs b0 b2 p q)∧(w86c9 n bs b0 b2 p q))∧((n_2 == (8:Int)) = false→RetOpen (w86c11 n b0 b2) (w86c4 n) (w86c5 b0 b2 p q) (w86c1 n bs b0 b2 p q))))))))):=by kernel_rfl
end Go.Abs.Lx
namespace Go.Abs.Lx
open Go.Proofs L8
def tabOk (n:Nat):Bool:=
 let c:=UInt8.ofNat n
 (decide (cls n = 1) == blankB c) && (decide (cls n = 6) == (c == 35)) && (decide (cls n = 2) == letterB c) && (decide (cls n = 3) == digitB c) && (decide (cls n = 5) == (c == 34)) &&
  (decide (cls n = 7) == signB c) && (decide (cls n = 8) == (c == 33)) && ((decide (cls n = 2) || decide (cls n = 3) || decide (cls n = 4)) == innerB c)
theorem tab_ok:(List.range 256).all tabOk = true:=by kernel_rfl
structure ClsIs (c:UInt8):Prop where
 b1:cls c.toNat = 1 ↔ blankB c = true
 b6:cls c.toNat = 6 ↔ (c == 35) = true
 b2:cls c.toNat = 2 ↔ letterB c = true
 b3:cls c.toNat = 3 ↔ digitB c = true
 b5:cls c.toNat = 5 ↔ (c == 34) = true
 b7:cls c.toNat = 7 ↔ signB c = true
 b8:cls c.toNat = 8 ↔ (c == 33) = true
 inn:(cls c.toNat = 2∨cls c.toNat = 3∨cls c.toNat = 4) ↔ innerB c = true
theorem cls_is (c:UInt8):ClsIs c:=by
 have h:=List.all_eq_true.1 tab_ok c.toNat (List.mem_range.2 c.toNat_lt)
 simp only [tabOk,Bool.and_eq_true,beq_iff_eq,UInt8.ofNat_toNat] at h
 obtain ⟨⟨⟨⟨⟨⟨⟨h1,h2⟩,h3⟩,h4⟩,h5⟩,h6⟩,h7⟩,h8⟩:=h
 refine ⟨?_,?_,?_,?_,?_,?_,?_,?_⟩
 ·rw [← h1]; simp
 ·rw [← h2]; simp
 ·rw [← h3]; simp
 ·rw [← h4]; simp
 ·rw [← h5]; simp
 ·rw [← h6]; simp
 ·rw [← h7]; simp
 ·rw [← h8]; simp [or_assoc]
theorem inCls_inner:inCls [.int .u8 2,.int .u8 3,.int .u8 4] = innerB:=by
 funext c
 have h:=(cls_is c).inn
 have e:inCls [.int .u8 2,.int .u8 3,.int .u8 4] c = true ↔ innerB c = true:=by
  rw [← h]
  show ((([2,3,4]:List UInt8).any fun p=>p.toNat == cls c.toNat) = true) ↔ _
  simp
  omega
 cases h1:inCls [.int .u8 2,.int .u8 3,.int .u8 4] c <;> cases h2:innerB c <;> simp_all
theorem inCls_digit:inCls [.int .u8 3] = digitB:=by
 funext c
 have h:=(cls_is c).b3
 have e:inCls [.int .u8 3] c = true ↔ digitB c = true:=by
  rw [← h]
  show ((([3]:List UInt8).any fun p=>p.toNat == cls c.toNat) = true) ↔ _
  simp
  omega
 cases h1:inCls [.int .u8 3] c <;> cases h2:digitB c <;> simp_all
theorem runL_inner {c:UInt8} {t:List UInt8} (h:innerB c = true):runL [.int .u8 2,.int .u8 3,.int .u8 4] (c :: t) = 1 + (t.takeWhile innerB).length:=by
 rw [runL,inCls_inner,List.takeWhile_cons,if_pos h,List.length_cons,Nat.add_comm]
theorem runL_digit {c:UInt8} {t:List UInt8} (h:digitB c = true):runL [.int .u8 3] (c :: t) = 1 + (t.takeWhile digitB).length:=by
 rw [runL,inCls_digit,List.takeWhile_cons,if_pos h,List.length_cons,Nat.add_comm]
theorem runL_digits (l:List UInt8):runL [.int .u8 3] l = (l.takeWhile digitB).length:=by rw [runL,inCls_digit]
theorem letter_inner {c:UInt8} (h:letterB c = true):innerB c = true:=by simp [innerB,h]
theorem take_tw {p:UInt8→Bool} (l:List UInt8):l.take (l.takeWhile p).length = l.takeWhile p:=(List.prefix_iff_eq_take.1 (List.takeWhile_prefix p)).symm
theorem tbl_hit {g:FuncId} {s:Spec} {l:List (FuncId × Spec)} {args:List AV}:tbl ((g,s) :: l) g args = s args:=by simp only [tbl,if_true]
theorem tbl_miss {f g:FuncId} {s:Spec} {l:List (FuncId × Spec)} {args:List AV} (h:f ≠ g):tbl ((g,s) :: l) f args = tbl l f args:=by simp only [tbl,if_neg h]
theorem s39_int {l:List UInt8} (h:intB l = true) (hl:l.length≤1000000):s129 [.int .i64 2,.str l] = some (.int .i64 (intErr l),[]):=by
 simp only [s129]
 rw [if_pos hl,if_neg (fun h=>absurd h.1 (by decide)),if_pos ⟨trivial,h⟩]
theorem s39_dec {l:List UInt8} (h:decB l = true) (hl:l.length≤1000000):s129 [.int .i64 3,.str l] = some (.int .i64 (decErr l),[]):=by
 simp only [s129]
 rw [if_pos hl,if_pos ⟨trivial,h⟩]
theorem tb39 {args:List AV}:tbl [(128,s128),(129,s129),(130,s130),(131,s131),(132,s132)] 129 args = s129 args:=by
 rw [tbl_miss (fun h=>absurd h (by decide)),tbl_hit]
theorem tb40 {args:List AV}:tbl [(128,s128),(129,s129),(130,s130),(131,s131),(132,s132)] 130 args = s130 args:=by
 rw [tbl_miss (fun h=>absurd h (by decide)),tbl_miss (fun h=>absurd h (by decide)),tbl_hit]
theorem tb41 {args:List AV}:tbl [(128,s128),(129,s129),(130,s130),(131,s131),(132,s132)] 131 args = s131 args:=by
 rw [tbl_miss (fun h=>absurd h (by decide)),tbl_miss (fun h=>absurd h (by decide)),tbl_miss (fun h=>absurd h (by decide)),tbl_hit]
theorem tw_append {a:List UInt8} (ha:a.all digitB = true) (b:List UInt8):(a ++ 46 :: b).takeWhile digitB = a:=by
 induction a with
 | nil=>rfl
 | cons x a ih =>
  simp only [List.all_cons,Bool.and_eq_true] at ha
  rw [List.cons_append,List.takeWhile_cons,if_pos ha.1,ih ha.2]
theorem decB_mk {a b:List UInt8} (ha:a.all digitB = true) (hne:a ≠ []) (hb:b.all digitB = true) (hb0:b ≠ []):decB (a ++ 46 :: b) = true:=by
 have h1:(a ++ 46 :: b)[a.length]? = some 46:=by simp
 have h2:(a ++ 46 :: b).drop (a.length + 1) = b:=by
  rw [show a ++ 46 :: b = (a ++ [46]) ++ b by simp,List.drop_left' (by simp)]
 simp only [decB,tw_append ha,h1,h2,intB,hne,hb,hb0,ne_eq,not_false_eq_true,decide_true,Bool.and_self]
theorem s130_eq {t:List UInt8} (h:t.length≤1000000):s130 [.sl 1 (bytesL t) .no,.str [34,10]] = some (.int .i64 (if (t.takeWhile lineB).length < t.length then ((t.takeWhile lineB).length:Int) else -1),[]):=by
 simp only [s130,onBytes,unBytes_mk,if_true]
 rw [if_pos h]
theorem s131_eq {t:List UInt8} (h:t.length≤1000000):s131 [.sl 1 (bytesL t) .no] = some (.int .i64 (txtErr t),[]):=by
 simp only [s131,onBytes,unBytes_mk,if_true]
 rw [if_pos h]
theorem UInt8.toUInt8_toNat' (c:UInt8):c.toNat.toUInt8 = c:=by simp
theorem tw_at {p:UInt8→Bool} {l:List UInt8} (h:(l.takeWhile p).length < l.length):p (l.getD (l.takeWhile p).length 0) = false:=by
 cases hp:p (l.getD (l.takeWhile p).length 0) with
 | false=>rfl
 | true =>
  have:=tw_next (p:=p) (l:=l) (k:=(l.takeWhile p).length) (Nat.le_refl _) h hp
  omega
theorem tw_self {p:UInt8→Bool}:∀ {l:List UInt8},(∀ y ∈ l,p y = true)→l.takeWhile p = l
 | [],_=>rfl
 | a :: l,h=>by
  rw [List.takeWhile_cons,if_pos (h a List.mem_cons_self),tw_self fun y hy=>h y (List.mem_cons_of_mem _ hy)]
theorem s128_eq {bs:List UInt8} {c:Int} (hb:bs ≠ []):s128 [.sl 1 (bytesL bs) .no,.int .u8 c] = some (.int .i64 (Lib.indexByte bs c.toNat.toUInt8),[]):=by
 have h1:bytesL bs ≠ []:=by simpa [bytesL] using hb
 show (if 1 = 1∧bytesL bs ≠ [] then onBytes (bytesL bs) fun bs=>some (AV.int .i64 (Lib.indexByte bs c.toNat.toUInt8),([]:List (Nat × TypeId))) else none) = _
 rw [if_pos ⟨rfl,h1⟩,onBytes,unBytes_mk]
theorem ib_take {l:List UInt8} {x:UInt8}:Lib.indexByte l x = if (l.takeWhile (· != x)).length < l.length then ((l.takeWhile (· != x)).length:Int) else -1:=by
 obtain ⟨h1,h2⟩:=ib_spec l x
 by_cases h:x ∈ l
 ·rw [h1 h,if_pos]
  rcases Nat.lt_or_ge (l.takeWhile (· != x)).length l.length with hlt | hge
  ·exact hlt
  ·have he:l.takeWhile (· != x) = l:=by
    rw [← take_tw,List.take_of_length_le hge]
   have:=takeWhile_all (· != x) l
   rw [he,List.all_eq_true] at this
   exact absurd (this x h) (by simp)
 ·rw [h2 h,if_neg]
  have he:l.takeWhile (· != x) = l:=by
   refine tw_self fun y hy=>?_
   have:y ≠ x:=by rintro rfl; exact h hy
   simpa using this
  rw [he]; omega
theorem take_full (bs:List UInt8) (i:Nat):((bytesL bs).take bs.length).drop i = bytesL (bs.drop i):=by
 rw [drop_take_bytes,List.take_of_length_le (Nat.le_refl _)]
theorem p0_mono {a b:Nat} (hab:a≤b) {v:AV} (h:v.p0 a = true):v.p0 b = true:=by
 cases v with
 | _=>first | exact h | (simp only [AV.p0,decide_eq_true_eq] at h ⊢; omega)
theorem all_p0_mono {a b:Nat} (hab:a≤b) {l:List AV} (h:l.all (AV.p0 a) = true):l.all (AV.p0 b) = true:=by
 rw [List.all_eq_true] at h ⊢
 exact fun x hx=>p0_mono hab (h x hx)
theorem p86 (m:Int) (k:Nat) (bs:List UInt8) (b0 b2:List AV) (p q:Nat × TypeId) (h0:b0.all (AV.p0 3) = true) (h2':b2.all (AV.p0 3) = true) (hk:k < bs.length) (hl:bs.length≤1000000) :
  OpenOk PQ (GQ m) XL (tbl t29) (itbl [(127,s127)]) nAn [] 86 [.sl 1 (bytesL bs) .no,.int .i64 k,.ptr 1 0] (S29 b0 b2 p q) (.tup [.int .i64 (piece (bs.drop (k:Int).toNat)).1,.int .i64 (k + (piece (bs.drop (k:Int).toNat)).2.1),.int .i64 (piece (bs.drop (k:Int).toNat)).2.2],S29 b0 b2 p q):=by
 constructor
 rw [w86]; unfold w86c20 w86c19 w86c16 w86c15 w86c14 w86c13 w86c12 w86c10 w86c9 w86c8 w86c6 w86c3 w86c11 w86c4 w86c7 w86c17 w86c18 w86c2 w86c1 w86c5 I6
 have hok:boxesOk 3 [some b0,some keptClasses,some b2] = true:=by
  have hk:keptClasses.all (AV.p1 3) = true:=by kernel_rfl
  simp only [boxesOk,Bool.or_true,all_p0_p1 h0,all_p0_p1 h2',hk,Bool.and_true]
 have p2i:∀ a b c:Int,AV.p2 3 (.tup [.int .i64 a,.int .i64 b,.int .i64 c]) = true:=fun _ _ _=>rfl
 simp only [bytesD_mk,Int.toNat_natCast,List.length_map,retOpen_iff,take_u8_iff agg5 size5,hok,p2i,Bool.and_true,decide_eq_true_eq,decide_eq_false_iff_not,gt_iff_lt,ge_iff_le,true_or,true_and,and_true,List.cons.injEq,AV.int.injEq,AV.tup.injEq,Prod.mk.injEq,beq_iff_eq,bne_iff_ne,beq_eq_false_iff_ne,bne_eq_false_iff_eq,ne_eq,Nat.zero_add,Nat.mul_one]
 have hw1:IntKind.i64.wrap ((k:Int) + 1) = ((k + 1:Nat):Int):=by rw [wrap64_in (by omega) (by omega)]; omega
 have hct:bs.drop k = bs.getD k 0 :: bs.drop (k + 1):=by
  rw [List.drop_eq_getElem_cons hk]; simp [hk]
 have hcls:=cls_is (bs.getD k 0)
 have hcl:=cls_lt (bs.getD k 0).toNat
 have hcg:=cls_get (bs.getD k 0)
 have hc8:=(bs.getD k 0).toNat_lt
 have htl:(bs.drop (k + 1)).length = bs.length - (k + 1):=by simp
 simp only [hw1,Int.toNat_natCast,take_full]
 rw [hct]
 generalize hc:bs.getD k 0 = c at *
 generalize ht:bs.drop (k + 1) = t at *
 have tb38:tbl [(128,s128),(129,s129),(130,s130),(131,s131),(132,s132)] 128 [.sl 1 (bytesL (c :: t)) .no,.int .u8 10] = some (.int .i64 (Lib.indexByte (c :: t) (10:Int).toNat.toUInt8),[]):=by
  rw [tbl_hit]
  exact s128_eq (by simp)
 rw [show (10:Int).toNat.toUInt8 = 10 from rfl] at tb38
 have q3:[AV.int .u8 3] = bytesL [3]:=rfl
 have q234:[AV.int .u8 2,AV.int .u8 3,AV.int .u8 4] = bytesL [2,3,4]:=rfl
 refine ⟨⟨by omega,by omega⟩,(c.toNat:Int),⟨hk,rfl⟩,⟨by omega,by omega⟩,(cls c.toNat:Int),by simpa using hcg,fun h1=>?_,fun h1=>⟨fun h6=>?_,fun h6=>⟨fun h2=>?_,fun h2=>⟨fun h3=>?_,fun h3=>⟨fun h5=>?_,fun h5=>?_⟩⟩⟩⟩⟩
 ·have hb:blankB c = true:=hcls.b1.1 (by omega)
  simp only [piece,hb,if_true]
  exact ⟨trivial,by omega,trivial⟩
 ·have hb:¬ blankB c = true:=fun h=>h1 (by have:=hcls.b1.2 h; omega)
  have h35:(c == 35) = true:=hcls.b6.1 (by omega)
  have h35':c = 35:=by simpa using h35
  have hp:piece (c :: t) = (0,1 + (t.takeWhile (· != 10)).length,0):=by
   simp only [piece]; rw [if_neg hb,if_pos h35]
  rw [hp]
  dsimp only
  have hib:=ib_take (l:=c :: t) (x:=10)
  have hne:(c != 10) = true:=by rw [h35']; rfl
  rw [List.takeWhile_cons,if_pos hne,List.length_cons,List.length_cons] at hib
  have hle:=tw_le (p:=(· != 10)) t
  refine ⟨by omega,⟨by omega,Nat.le_refl _⟩,_,⟨tb38⟩,fun hge=>⟨rfl,?_,rfl⟩,fun hlt=>⟨rfl,?_,rfl⟩⟩
  ·rw [hib] at hge ⊢
   split at hge
   ·rename_i hl'
    rw [if_pos hl',wrap64_in (by omega) (by omega)]
    omega
   ·omega
  ·rw [hib] at hlt
   split at hlt
   ·omega
   ·have:(t.takeWhile (· != 10)).length = t.length:=by omega
    rw [this]
    omega
 ·have hb:¬ blankB c = true:=fun h=>h1 (by have:=hcls.b1.2 h; omega)
  have h35:¬ (c == 35) = true:=fun h=>h6 (by have:=hcls.b6.2 h; omega)
  have hle':letterB c = true:=hcls.b2.1 (by omega)
  have hp:piece (c :: t) = (1,1 + (t.takeWhile innerB).length,if 24 < 1 + (t.takeWhile innerB).length then 2 else 0):=by
   simp only [piece]; rw [if_neg hb,if_neg h35,if_pos hle']
  rw [hp,runL_inner (letter_inner hle')]
  have hle:=tw_le (p:=innerB) t
  rw [show ((k:Int) + (1 + (t.takeWhile innerB).length:Nat) - k) = (1 + (t.takeWhile innerB).length:Nat) by omega,wrap64_in (by omega) (by omega)]
  refine ⟨⟨⟨all_p0_mono (by omega) h0,all_p0_mono (by omega) h2'⟩,⟨bs,rfl,hl,by omega,by omega⟩,[2,3,4],q234,by simp⟩,fun h=>⟨rfl,rfl,?_⟩,fun h=>⟨rfl,rfl,?_⟩⟩
  ·rw [if_pos (by omega)]
  ·rw [if_neg (by omega)]
 ·have hb:¬ blankB c = true:=fun h=>h1 (by have:=hcls.b1.2 h; omega)
  have h35:¬ (c == 35) = true:=fun h=>h6 (by have:=hcls.b6.2 h; omega)
  have hle':¬ letterB c = true:=fun h=>h2 (by have:=hcls.b2.2 h; omega)
  have hd:digitB c = true:=hcls.b3.1 (by omega)
  rw [runL_digit hd]
  have hle:=tw_le (p:=digitB) t
  have hn:∃ n,n = 1 + (t.takeWhile digitB).length:=⟨_,rfl⟩
  obtain ⟨n,hn⟩:=hn
  rw [← hn]
  have hkn:((k:Int) + (n:Int)).toNat = k + n:=by omega
  have hwn:IntKind.i64.wrap ((k:Int) + n + 1) = ((k + n + 1:Nat):Int):=by rw [wrap64_in (by omega) (by omega)]; omega
  simp only [hkn,hwn,Int.toNat_natCast,runL_digits]
  have hdig:(c :: t).take n = (c :: t).takeWhile digitB:=by
   have:n = ((c :: t).takeWhile digitB).length:=by rw [List.takeWhile_cons,if_pos hd,List.length_cons]; omega
   rw [this,take_tw]
  have hint:intB ((c :: t).take n) = true:=by
   rw [hdig]
   simp only [intB,Bool.and_eq_true,decide_eq_true_eq]
   exact ⟨by rw [List.takeWhile_cons,if_pos hd]; simp,takeWhile_all _ _⟩
  have htk:∀ j,((bytesL bs).take (k + j)).drop k = bytesL ((c :: t).take j):=fun j=>by
   rw [drop_take_bytes,List.drop_take,hct,Nat.add_sub_cancel_left]
  have tbi:tbl [(128,s128),(129,s129),(130,s130),(131,s131),(132,s132)] 129 [.int .i64 2,.str ((c :: t).take n)] = some (.int .i64 (intErr ((c :: t).take n)),[]):=by
   rw [tb39]
   exact s39_int hint (by rw [List.length_take,List.length_cons]; omega)
  have hgn:bs.getD (k + n) 0 = t.getD (n - 1) 0:=by
   rw [← ht,getD_drop',show k + 1 + (n - 1) = k + n by omega]
  have hdrop:(c :: t).drop n = t.drop (n - 1):=by
   rw [hn,Nat.add_comm,List.drop_succ_cons]; rfl
  -- no point: an integer
  have pint:(∀ u,(c :: t).drop n = 46 :: u→(u.takeWhile digitB).length = 0)→piece (c :: t) = (2,n,intErr ((c :: t).take n)):=fun hno=>by
   simp only [piece]; rw [if_neg hb,if_neg h35,if_neg hle',if_pos hd,← hn]
   split
   ·rename_i u hu
    rw [if_pos (hno u hu)]
   ·rfl
  have fin:(∀ u,(c :: t).drop n = 46 :: u→(u.takeWhile digitB).length = 0)→0≤(k:Int)∧0≤(k:Int) + n∧(k≤k + n∧k + n≤bs.length)∧∃ l,List.mapM byteOf (((bytesL bs).take (k + n)).drop k) = some l∧∃ n_4,CallIs (tbl [(128,s128),(129,s129),(130,s130),(131,s131),(132,s132)] 129 [AV.int .i64 2,AV.str l]) (AV.int .i64 n_4) []∧2 = (piece (c :: t)).1∧(k:Int) + n = k + (piece (c :: t)).2.1∧n_4 = (piece (c :: t)).2.2:=fun hno=>by
   rw [pint hno,htk]
   exact ⟨by omega,by omega,⟨by omega,by omega⟩,_,mapByte _,_,⟨tbi⟩,rfl,rfl,rfl⟩
  refine ⟨⟨⟨all_p0_mono (by omega) h0,all_p0_mono (by omega) h2'⟩,⟨bs,rfl,hl,by omega,by omega⟩,[3],q3,by simp⟩,fun hlt=>⟨⟨by omega,by omega⟩,((t.getD (n - 1) 0).toNat:Int),⟨by omega,by rw [hgn]⟩,fun h46=>⟨⟨⟨all_p0_mono (by omega) h0,all_p0_mono (by omega) h2'⟩,⟨bs,rfl,hl,by omega,by omega⟩,[3],q3,by simp⟩,fun hgt=>⟨⟨⟨all_p0_mono (by omega) h0,all_p0_mono (by omega) h2'⟩,⟨bs,rfl,hl,by omega,by omega⟩,[3],q3,by simp⟩,?_⟩,fun hng=>?_⟩,fun h46=>?_⟩,fun hge=>?_⟩
  ·
   have h46':t.getD (n - 1) 0 = 46:=by
    rw [← UInt8.toNat_inj]
    show (t.getD (n - 1) 0).toNat = 46
    omega
   have hkn':k + n < bs.length:=by omega
   have hbk:bs[k + n] = 46:=by
    have h9:bs.getD (k + n) 0 = 46:=hgn.trans h46'
    rw [List.getD_eq_getElem?_getD,List.getElem?_eq_getElem hkn',Option.getD_some] at h9
    exact h9
   have hcu:(c :: t).drop n = 46 :: bs.drop (k + n + 1):=by
    rw [hdrop,← ht,List.drop_drop,show k + 1 + (n - 1) = k + n by omega,List.drop_eq_getElem_cons hkn',hbk]
   have hm0:(bs.drop (k + n + 1)).takeWhile digitB ≠ []:=by
    intro e; rw [e] at hgt; simp at hgt
   have hml:=tw_le (p:=digitB) (bs.drop (k + n + 1))
   rw [List.length_drop] at hml
   generalize hM:((bs.drop (k + n + 1)).takeWhile digitB).length = M at *
   have hM1:M ≠ 0:=by rw [← hM]; simpa using hm0
   have hp:piece (c :: t) = (3,n + 1 + M,decErr ((c :: t).take (n + 1 + M))):=by
    simp only [piece]; rw [if_neg hb,if_neg h35,if_neg hle',if_pos hd,← hn,hcu]
    simp only
    rw [hM,if_neg hM1]
   have hlen:(c :: t).length = bs.length - k:=by rw [← hct,List.length_drop]
   have e1:(c :: t).take (n + 1 + M) = (c :: t).takeWhile digitB ++ 46 :: (bs.drop (k + n + 1)).takeWhile digitB:=by
    have:(c :: t) = (c :: t).take n ++ (c :: t).drop n:=(List.take_append_drop _ _).symm
    rw [hdig,hcu] at this
    have hln:((c :: t).takeWhile digitB).length = n:=by rw [← hdig,List.length_take]; omega
    conv=>lhs; rw [this]
    rw [List.take_append,hln,List.take_of_length_le (by omega),show n + 1 + M - n = M + 1 by omega,List.take_succ_cons,← hM,take_tw]
   have hdec:decB ((c :: t).take (n + 1 + M)) = true:=by
    rw [e1]
    have ha:=takeWhile_all digitB (c :: t)
    have hane:(c :: t).takeWhile digitB ≠ []:=by rw [List.takeWhile_cons,if_pos hd]; simp
    exact decB_mk ha hane (takeWhile_all _ _) hm0
   have tbd:tbl [(128,s128),(129,s129),(130,s130),(131,s131),(132,s132)] 129 [.int .i64 3,.str ((c :: t).take (n + 1 + M))] = some (.int .i64 (decErr ((c :: t).take (n + 1 + M))),[]):=by
    rw [tb39]
    exact s39_dec hdec (by rw [List.length_take]; omega)
   rw [hp,show (((k + n + 1:Nat):Int) + (M:Int)).toNat = k + (n + 1 + M) by omega,htk]
   exact ⟨by omega,by omega,⟨by omega,by omega⟩,_,mapByte _,_,⟨tbd⟩,rfl,by dsimp only; omega,rfl⟩
  ·refine fin fun u hu=>?_
   have hu':u = bs.drop (k + n + 1):=by
    have h9:=congrArg (List.drop 1) hu
    rw [List.drop_drop,← hct,List.drop_drop,show k + (n + 1) = k + n + 1 by omega] at h9
    simpa using h9.symm
   rw [hu']; omega
  ·refine fin fun u hu=>?_
   exfalso
   apply h46
   have h9:((c :: t).drop n).getD 0 0 = 46:=by rw [hu]; rfl
   rw [hdrop,getD_drop',Nat.add_zero] at h9
   rw [h9]; rfl
  ·refine fin fun u hu=>?_
   exfalso
   have h9:=congrArg List.length hu
   rw [List.length_drop,List.length_cons,List.length_cons] at h9
   omega
 ·have hb:¬ blankB c = true:=fun h=>h1 (by have:=hcls.b1.2 h; omega)
  have h35:¬ (c == 35) = true:=fun h=>h6 (by have:=hcls.b6.2 h; omega)
  have hle':¬ letterB c = true:=fun h=>h2 (by have:=hcls.b2.2 h; omega)
  have hd:¬ digitB c = true:=fun h=>h3 (by have:=hcls.b3.2 h; omega)
  have hq:(c == 34) = true:=hcls.b5.1 (by omega)
  have hL:=tw_le (p:=lineB) t
  have tb:tbl [(128,s128),(129,s129),(130,s130),(131,s131),(132,s132)] 130 [.sl 1 (bytesL t) .no,.str [34,10]] = some (.int .i64 (if (t.takeWhile lineB).length < t.length then ((t.takeWhile lineB).length:Int) else -1),[]):=by
   rw [tb40]; exact s130_eq (by omega)
  have hun:(∀ u,t.drop (t.takeWhile lineB).length ≠ 34 :: u)→piece (c :: t) = (-1,1,80):=fun hno=>by
   simp only [piece]; rw [if_neg hb,if_neg h35,if_neg hle',if_neg hd,if_pos hq]
  refine ⟨by omega,⟨by omega,Nat.le_refl _⟩,_,⟨tb⟩,fun hneg=>?_,fun hnn=>?_⟩
  ·have hge:¬ (t.takeWhile lineB).length < t.length:=by
    intro h; rw [if_pos h] at hneg; omega
   rw [hun fun u hu=>by have:=congrArg List.length hu; rw [List.length_drop,List.length_cons] at this; omega]
   exact ⟨rfl,by dsimp only; omega,rfl⟩
  ·have hlt:(t.takeWhile lineB).length < t.length:=by
    rcases Nat.lt_or_ge (t.takeWhile lineB).length t.length with h | h
    ·exact h
    ·rw [if_neg (by omega)] at hnn; omega
   rw [if_pos hlt]
   have hst:=tw_at (p:=lineB) hlt
   have htd:t.drop (t.takeWhile lineB).length = t.getD (t.takeWhile lineB).length 0 :: t.drop ((t.takeWhile lineB).length + 1):=by
    rw [List.drop_eq_getElem_cons hlt]; simp [hlt]
   have htw:=take_tw (p:=lineB) t
   generalize hLL:(t.takeWhile lineB).length = L at *
   have hw3:IntKind.i64.wrap (((k + 1:Nat):Int) + L) = ((k + 1 + L:Nat):Int):=by rw [wrap64_in (by omega) (by omega)]; omega
   have hw4:IntKind.i64.wrap (IntKind.i64.wrap ((k:Int) + L) + 1) = ((k + 1 + L:Nat):Int):=by rw [wrap64_in (n:=(k:Int) + L) (by omega) (by omega),wrap64_in (by omega) (by omega)]; omega
   have hw5:IntKind.i64.wrap (IntKind.i64.wrap ((k:Int) + L) + 2) = ((k + 2 + L:Nat):Int):=by rw [wrap64_in (n:=(k:Int) + L) (by omega) (by omega),wrap64_in (by omega) (by omega)]; omega
   simp only [hw3,hw4,hw5,Int.toNat_natCast]
   have hbx:bs.getD (k + 1 + L) 0 = t.getD L 0:=by rw [← ht,getD_drop']
   rw [hbx]
   generalize hx:t.getD L 0 = x at *
   have hx2:x = 34∨x = 10:=by
    simp only [lineB,Bool.and_eq_false_iff,bne_eq_false_iff_eq] at hst
    exact hst
   refine ⟨⟨by omega,by omega⟩,(x.toNat:Int),⟨by omega,rfl⟩,fun h10=>?_,fun h10=>?_⟩
   ·have hx10:x = 10:=by rw [← UInt8.toNat_inj]; show x.toNat = 10; omega
    rw [hun fun u hu=>by rw [htd,hx10] at hu; simp at hu]
    exact ⟨rfl,by dsimp only; omega,rfl⟩
   ·have hx34:x = 34:=by
     rcases hx2 with h | h
     ·exact h
     ·rw [h] at h10; exact absurd rfl h10
    have hp:piece (c :: t) = (4,L + 2,txtErr (t.takeWhile lineB)):=by
     simp only [piece]; rw [if_neg hb,if_neg h35,if_neg hle',if_neg hd,if_pos hq,hLL,htd,hx34]
     rfl
    have e1:((bytesL bs).take (k + 1 + L)).drop (k + 1) = bytesL (t.takeWhile lineB):=by
     rw [drop_take_bytes,List.drop_take,ht,Nat.add_sub_cancel_left,htw]
    have tb4:tbl [(128,s128),(129,s129),(130,s130),(131,s131),(132,s132)] 131 [.sl 1 (bytesL (t.takeWhile lineB)) .no] = some (.int .i64 (txtErr (t.takeWhile lineB)),[]):=by
     rw [tb41]; exact s131_eq (by omega)
    rw [hp,e1]
    exact ⟨by omega,by omega,⟨by omega,by omega⟩,_,⟨tb4⟩,rfl,by dsimp only; omega,rfl⟩
 ·refine ⟨fun h7=>?_,fun h7=>⟨fun h8=>?_,fun h8=>?_⟩⟩
  ·have hs:signB c = true∨(c == 33) = true:=.inl (hcls.b7.1 (by omega))
   have hb:¬ blankB c = true:=fun h=>h1 (by have:=hcls.b1.2 h; omega)
   have h35:¬ (c == 35) = true:=fun h=>h6 (by have:=hcls.b6.2 h; omega)
   have hle':¬ letterB c = true:=fun h=>h2 (by have:=hcls.b2.2 h; omega)
   have hd:¬ digitB c = true:=fun h=>h3 (by have:=hcls.b3.2 h; omega)
   have hq:¬ (c == 34) = true:=fun h=>h5 (by have:=hcls.b5.2 h; omega)
   have hw2:IntKind.i64.wrap (((k + 1:Nat):Int) + 1) = ((k + 2:Nat):Int):=by rw [wrap64_in (by omega) (by omega)]; omega
   simp only [hw2]
   have last:¬ (eqSgB c && (t.head?.getD 0 == 61)) = true→(¬ (c.toNat:Int) = 33→5 = (piece (c :: t)).1∧((k + 1:Nat):Int) = k + (piece (c :: t)).2.1∧0 = (piece (c :: t)).2.2)∧((c.toNat:Int) = 33→-1 = (piece (c :: t)).1∧((k + 1:Nat):Int) = k + (piece (c :: t)).2.1∧80 = (piece (c :: t)).2.2):=fun hne=>by
    constructor
    ·intro h33
     have hsg:signB c = true:=by
      rcases hs with hs | hs
      ·exact hs
      ·exact absurd (by rw [show c = 33 by simpa using hs]; rfl) h33
     have hp:piece (c :: t) = (5,1,0):=by
      simp only [piece]; rw [if_neg hb,if_neg h35,if_neg hle',if_neg hd,if_neg hq,if_neg hne,if_pos hsg]
     rw [hp]
     exact ⟨rfl,by dsimp only; omega,rfl⟩
    ·intro h33
     have hc33:c = 33:=by rw [← UInt8.toNat_inj]; show c.toNat = 33; omega
     have hsg:¬ signB c = true:=by rw [hc33]; decide
     have hp:piece (c :: t) = (-1,1,80):=by
      simp only [piece]; rw [if_neg hb,if_neg h35,if_neg hle',if_neg hd,if_neg hq,if_neg hne,if_neg hsg]
     rw [hp]
     exact ⟨rfl,by dsimp only; omega,rfl⟩
   refine ⟨fun hlt=>⟨⟨by omega,by omega⟩,((bs.getD (k + 1) 0).toNat:Int),⟨by omega,rfl⟩,fun h61=>⟨⟨by omega,by omega⟩,(c.toNat:Int),⟨hk,rfl⟩,_,⟨rfl⟩,fun hge=>?_,fun hng=>⟨⟨by omega,by omega⟩,(c.toNat:Int),⟨hk,rfl⟩,?_⟩⟩,fun h61=>⟨⟨by omega,by omega⟩,(c.toNat:Int),⟨hk,rfl⟩,?_⟩⟩,fun hge=>⟨⟨by omega,by omega⟩,(c.toNat:Int),⟨hk,rfl⟩,?_⟩⟩
   ·have hh:t.head?.getD 0 = 61:=by
     have:(bs.getD (k + 1) 0) = 61:=by rw [← UInt8.toNat_inj]; show (bs.getD (k + 1) 0).toNat = 61; omega
     rw [← this,← ht,List.head?_drop,List.getD_eq_getElem?_getD]
    have heq:eqSgB c = true:=by
     rw [ib_ge,Int.toNat_natCast,UInt8.toUInt8_toNat'] at hge
     simp only [List.mem_cons,List.not_mem_nil,or_false] at hge
     simp only [eqSgB,Bool.or_eq_true,beq_iff_eq]
     rcases hge with h | h | h <;> simp [h]
    have hp:piece (c :: t) = (5,2,0):=by
     simp only [piece]; rw [if_neg hb,if_neg h35,if_neg hle',if_neg hd,if_neg hq,if_pos (by simp [heq,hh])]
    rw [hp]
    exact ⟨rfl,by dsimp only; omega,rfl⟩
   ·refine last fun h=>hng ?_
    simp only [Bool.and_eq_true] at h
    have heq:=h.1
    simp only [eqSgB,Bool.or_eq_true,beq_iff_eq] at heq
    rw [ib_ge,Int.toNat_natCast,UInt8.toUInt8_toNat']
    rcases heq with (h | h) | h <;> simp [h]
   ·refine last fun h=>h61 ?_
    simp only [Bool.and_eq_true,beq_iff_eq] at h
    have hh:=h.2
    rw [← ht,List.head?_drop,← List.getD_eq_getElem?_getD] at hh
    rw [hh]; rfl
   ·refine last fun h=>?_
    simp only [Bool.and_eq_true,beq_iff_eq] at h
    have hh:=h.2
    have:t = []:=List.length_eq_zero_iff.1 (by omega)
    rw [this] at hh
    simp at hh
  ·have hs:signB c = true∨(c == 33) = true:=.inr (hcls.b8.1 (by omega))
   have hb:¬ blankB c = true:=fun h=>h1 (by have:=hcls.b1.2 h; omega)
   have h35:¬ (c == 35) = true:=fun h=>h6 (by have:=hcls.b6.2 h; omega)
   have hle':¬ letterB c = true:=fun h=>h2 (by have:=hcls.b2.2 h; omega)
   have hd:¬ digitB c = true:=fun h=>h3 (by have:=hcls.b3.2 h; omega)
   have hq:¬ (c == 34) = true:=fun h=>h5 (by have:=hcls.b5.2 h; omega)
   have hw2:IntKind.i64.wrap (((k + 1:Nat):Int) + 1) = ((k + 2:Nat):Int):=by rw [wrap64_in (by omega) (by omega)]; omega
   simp only [hw2]
   have last:¬ (eqSgB c && (t.head?.getD 0 == 61)) = true→(¬ (c.toNat:Int) = 33→5 = (piece (c :: t)).1∧((k + 1:Nat):Int) = k + (piece (c :: t)).2.1∧0 = (piece (c :: t)).2.2)∧((c.toNat:Int) = 33→-1 = (piece (c :: t)).1∧((k + 1:Nat):Int) = k + (piece (c :: t)).2.1∧80 = (piece (c :: t)).2.2):=fun hne=>by
    constructor
    ·intro h33
     have hsg:signB c = true:=by
      rcases hs with hs | hs
      ·exact hs
      ·exact absurd (by rw [show c = 33 by simpa using hs]; rfl) h33
     have hp:piece (c :: t) = (5,1,0):=by
      simp only [piece]; rw [if_neg hb,if_neg h35,if_neg hle',if_neg hd,if_neg hq,if_neg hne,if_pos hsg]
     rw [hp]
     exact ⟨rfl,by dsimp only; omega,rfl⟩
    ·intro h33
     have hc33:c = 33:=by rw [← UInt8.toNat_inj]; show c.toNat = 33; omega
     have hsg:¬ signB c = true:=by rw [hc33]; decide
     have hp:piece (c :: t) = (-1,1,80):=by
      simp only [piece]; rw [if_neg hb,if_neg h35,if_neg hle',if_neg hd,if_neg hq,if_neg hne,if_neg hsg]
     rw [hp]
     exact ⟨rfl,by dsimp only; omega,rfl⟩
   refine ⟨fun hlt=>⟨⟨by omega,by omega⟩,((bs.getD (k + 1) 0).toNat:Int),⟨by omega,rfl⟩,fun h61=>⟨⟨by omega,by omega⟩,(c.toNat:Int),⟨hk,rfl⟩,_,⟨rfl⟩,fun hge=>?_,fun hng=>⟨⟨by omega,by omega⟩,(c.toNat:Int),⟨hk,rfl⟩,?_⟩⟩,fun h61=>⟨⟨by omega,by omega⟩,(c.toNat:Int),⟨hk,rfl⟩,?_⟩⟩,fun hge=>⟨⟨by omega,by omega⟩,(c.toNat:Int),⟨hk,rfl⟩,?_⟩⟩
   ·have hh:t.head?.getD 0 = 61:=by
     have:(bs.getD (k + 1) 0) = 61:=by rw [← UInt8.toNat_inj]; show (bs.getD (k + 1) 0).toNat = 61; omega
     rw [← this,← ht,List.head?_drop,List.getD_eq_getElem?_getD]
    have heq:eqSgB c = true:=by
     rw [ib_ge,Int.toNat_natCast,UInt8.toUInt8_toNat'] at hge
     simp only [List.mem_cons,List.not_mem_nil,or_false] at hge
     simp only [eqSgB,Bool.or_eq_true,beq_iff_eq]
     rcases hge with h | h | h <;> simp [h]
    have hp:piece (c :: t) = (5,2,0):=by
     simp only [piece]; rw [if_neg hb,if_neg h35,if_neg hle',if_neg hd,if_neg hq,if_pos (by simp [heq,hh])]
    rw [hp]
    exact ⟨rfl,by dsimp only; omega,rfl⟩
   ·refine last fun h=>hng ?_
    simp only [Bool.and_eq_true] at h
    have heq:=h.1
    simp only [eqSgB,Bool.or_eq_true,beq_iff_eq] at heq
    rw [ib_ge,Int.toNat_natCast,UInt8.toUInt8_toNat']
    rcases heq with (h | h) | h <;> simp [h]
   ·refine last fun h=>h61 ?_
    simp only [Bool.and_eq_true,beq_iff_eq] at h
    have hh:=h.2
    rw [← ht,List.head?_drop,← List.getD_eq_getElem?_getD] at hh
    rw [hh]; rfl
   ·refine last fun h=>?_
    simp only [Bool.and_eq_true,beq_iff_eq] at h
    have hh:=h.2
    have:t = []:=List.length_eq_zero_iff.1 (by omega)
    rw [this] at hh
    simp at hh
  ·have hb:¬ blankB c = true:=fun h=>h1 (by have:=hcls.b1.2 h; omega)
   have h35:¬ (c == 35) = true:=fun h=>h6 (by have:=hcls.b6.2 h; omega)
   have hle':¬ letterB c = true:=fun h=>h2 (by have:=hcls.b2.2 h; omega)
   have hd:¬ digitB c = true:=fun h=>h3 (by have:=hcls.b3.2 h; omega)
   have hq:¬ (c == 34) = true:=fun h=>h5 (by have:=hcls.b5.2 h; omega)
   have hsg:¬ signB c = true:=fun h=>h7 (by have:=hcls.b7.2 h; omega)
   have h33:¬ (c == 33) = true:=fun h=>h8 (by have:=hcls.b8.2 h; omega)
   have hne:¬ (eqSgB c && (t.head?.getD 0 == 61)) = true:=by
    intro h
    simp only [Bool.and_eq_true,eqSgB,Bool.or_eq_true,beq_iff_eq] at h
    rcases h.1 with (h | h) | h
    ·exact hsg (by rw [h]; decide)
    ·exact h33 (by rw [h]; rfl)
    ·exact hsg (by rw [h]; decide)
   have hp:piece (c :: t) = (-1,1,80):=by
    simp only [piece]; rw [if_neg hb,if_neg h35,if_neg hle',if_neg hd,if_neg hq,if_neg hne,if_neg hsg]
   rw [hp]
   exact ⟨rfl,by dsimp only; omega,rfl⟩
end Go.Abs.Lx
namespace Go.Abs.Lx
open Go.Proofs L8
theorem w129 (m k:Int) (l:List UInt8):(pureW PQ (GQ m) XL (tbl [(162,s162'),(89,s89')]) (itbl []) nAn [] 129 [.int .i64 k,.str l] (.int .i64 (if k = 3 then decErr l else intErr l),[])) =
(((k == (3:Int)) = true →
    ∃ (n:Int),
      ∃ (n_1:Int),
        CallIs (tbl [((162:Nat),s162'),((89:Nat),s89')] ((162:Nat)) [AV.str l]) (AV.tup [AV.int IntKind.i64 n,AV.int IntKind.i64 n_1]) [] ∧
 RetIs (AV.int IntKind.i64 n_1) [] (AV.int IntKind.i64 (if k = (3:Int) then decErr l else intErr l),[])) ∧
  ((k == (3 : Int)) = false →
    ∃ (n:Int),
      CallIs (tbl [((162:Nat),s162'),((89:Nat),s89')] ((89:Nat)) [AV.str l]) (AV.tup [AV.int IntKind.i64 n,AV.ifc]) [] ∧
 (true = true→RetIs (AV.int IntKind.i64 (2:Int)) [] (AV.int IntKind.i64 (if k = (3:Int) then decErr l else intErr l),[])) ∧
 (true = false →
 (decide (n > (1152921504606846976:Int)) = true →
 RetIs (AV.int IntKind.i64 (2:Int)) [] (AV.int IntKind.i64 (if k = (3:Int) then decErr l else intErr l),[])) ∧
 (decide (n > (1152921504606846976:Int)) = false →
 RetIs (AV.int IntKind.i64 (0 : Int)) [] (AV.int IntKind.i64 (if k = (3 : Int) then decErr l else intErr l), []))) ∨
        CallIs (tbl [((162:Nat),s162'),((89:Nat),s89')] ((89:Nat)) [AV.str l]) (AV.tup [AV.int IntKind.i64 n,AV.lit Value.nilIface]) [] ∧
 (false = true→RetIs (AV.int IntKind.i64 (2:Int)) [] (AV.int IntKind.i64 (if k = (3:Int) then decErr l else intErr l),[])) ∧
 (false = false →
 (decide (n > (1152921504606846976:Int)) = true →
 RetIs (AV.int IntKind.i64 (2:Int)) [] (AV.int IntKind.i64 (if k = (3:Int) then decErr l else intErr l),[])) ∧
 (decide (n > (1152921504606846976:Int)) = false →
 RetIs (AV.int IntKind.i64 (0:Int)) [] (AV.int IntKind.i64 (if k = (3:Int) then decErr l else intErr l),[]))))):=by kernel_rfl
end Go.Abs.Lx
namespace Go.Abs.Lx
open Go.Proofs L8
theorem intErr_le (l:List UInt8):intErr l = if valX l≤1152921504606846976 then 0 else 2:=by
 simp only [intErr]
 by_cases h:valX l≤1152921504606846976
 ·rw [if_neg (by omega),if_pos h]
 ·rw [if_pos (by omega),if_neg h]
theorem p129d (m:Int) (l:List UInt8) (h:decB l = true) (hl:l.length≤1000000):PureOk PQ (GQ m) XL (tbl [(162,s162'),(89,s89')]) (itbl []) nAn [] 129 [.int .i64 3,.str l] (.int .i64 (decErr l),[]):=by
 constructor
 have hw:=w129 m 3 l
 rw [if_pos rfl] at hw
 rw [hw]
 have t51:tbl [(162,s162'),(89,s89')] 162 [.str l] = some (.tup [.int .i64 (if decErr l = 0 then decVal l else 0),.int .i64 (decErr l)],[]):=by
  rw [tbl_hit]; simp only [s162']; rw [if_pos ⟨hl,h⟩]
 exact ⟨fun _=>⟨_,_,⟨t51⟩,⟨rfl⟩⟩,fun h=>absurd h (by decide)⟩
theorem p129i (m:Int) (l:List UInt8) (h:intB l = true) (hl:l.length≤1000000):PureOk PQ (GQ m) XL (tbl [(162,s162'),(89,s89')]) (itbl []) nAn [] 129 [.int .i64 2,.str l] (.int .i64 (intErr l),[]):=by
 constructor
 have hw:=w129 m 2 l
 rw [if_neg (by decide)] at hw
 rw [hw]
 have t52:tbl [(162,s162'),(89,s89')] 89 [.str l] = if valX l≤9223372036854775807 then some (.tup [.int .i64 (valX l),.lit .nilIface],[]) else some (.tup [.int .i64 9223372036854775807,.ifc],[]):=by
  rw [tbl_miss (fun h=>absurd h (by decide)),tbl_hit]; simp only [s89']; rw [if_pos ⟨hl,h⟩]
  split <;> rfl
 refine ⟨fun h=>absurd h (by decide),fun _=>?_⟩
 rw [t52,intErr_le]
 by_cases h63:valX l≤9223372036854775807
 ·rw [if_pos h63]
  refine ⟨(valX l:Int),.inr ⟨⟨rfl⟩,fun h=>absurd h (by decide),fun _=>⟨fun h=>?_,fun h=>?_⟩⟩⟩
  ·have:=of_decide_eq_true h
   rw [if_neg (by omega)]; exact ⟨rfl⟩
  ·have:=of_decide_eq_false h
   rw [if_pos (by omega)]; exact ⟨rfl⟩
 ·rw [if_neg h63]
  refine ⟨9223372036854775807,.inl ⟨⟨rfl⟩,fun _=>?_,fun h=>absurd h (by decide)⟩⟩
  rw [if_neg (by omega)]; exact ⟨rfl⟩
theorem o85 (m:Int):ISpecOk PQ (GQ m) 85 s85:=ispec_of (X:=XL) (m:=[]) mixedQ tbl_nil itbl_nil fun args S p r h hp=>by
 unfold s85 at h
 split at h
 ·simp only [Option.some.injEq,Prod.mk.injEq] at h
  obtain ⟨h1,h2⟩:=h
  subst h1
  obtain ⟨k1,k2,k3⟩:=hp
  subst k2
  rw [← h2]
  exact ⟨nAn,p85 m _ _ _ _ _ k1 k3⟩
 ·cases h
theorem o128 (m:Int):SpecOk PQ (GQ m) 128 s128:=spec_of (X:=XL) (m:=[]) mixedQ (lib8_ok m) itbl_nil fun args r h=>by
 have key:∀ sz es c (o:Own),(o = .no∨o = .full)→(if sz = 1∧es ≠ [] then onBytes es fun bs=>some (AV.int .i64 (Lib.indexByte bs (c:Int).toNat.toUInt8),([]:List (Nat × TypeId))) else none) = some r→∃ A,PureOk PQ (GQ m) XL (tbl lib8) (itbl []) A [] 128 [.sl sz es o,.int .u8 c] r:=fun sz es c o ho h=>by
  split at h
  ·rename_i hc
   obtain ⟨rfl,hne⟩:=hc
   unfold onBytes at h
   split at h
   ·rename_i bs hb
    obtain rfl:=unBytes_some hb
    injection h with h
    subst h
    have hbs:bs ≠ []:=by rintro rfl; exact hne rfl
    rcases ho with rfl | rfl
    ·exact ⟨nAn,p128 m c bs hbs⟩
    ·exact ⟨nAn,p128f m c bs hbs⟩
   ·cases h
  ·cases h
 unfold s128 at h
 split at h
 ·exact key _ _ _ _ (.inl rfl) h
 ·exact key _ _ _ _ (.inr rfl) h
 ·cases h
theorem o170 (m:Int):SpecOk PQ (GQ m) 170 sIndexByteString:=spec_of (X:=XL) (m:=[]) mixedQ (lib8_ok m) itbl_nil fun args r h=>by
 unfold sIndexByteString at h
 split at h
 ·injection h with h; subst h; exact ⟨nAn,p170 m _ _⟩
 ·cases h
theorem o132 (m:Int):SpecOk PQ (GQ m) 132 s132:=spec_of (X:=XL) (m:=[]) mixedQ (tbl_cons (o170 m) tbl_nil) itbl_nil fun args r h=>by
 unfold s132 sIndexByteString at h
 split at h
 ·injection h with h; subst h; exact ⟨nAn,p132 m _ _⟩
 ·cases h
theorem o131 (m:Int):SpecOk PQ (GQ m) 131 s131:=spec_of (X:=XL) (m:=[]) mixedQ tbl_nil itbl_nil fun args r h=>by
 unfold s131 at h
 split at h
 ·split at h
  ·rename_i hsz
   subst hsz
   unfold onBytes at h
   split at h
   ·rename_i bs hb
    obtain rfl:=unBytes_some hb
    simp only at h
    split at h
    ·rename_i hl
     injection h with h; subst h; exact ⟨a131 bs,p131 m bs 1 rfl hl⟩
    ·cases h
   ·cases h
  ·cases h
 ·cases h
theorem o129 (m:Int) (h51:SpecOk PQ (GQ m) 162 s162') (h52:SpecOk PQ (GQ m) 89 s89'):SpecOk PQ (GQ m) 129 s129:=spec_of (X:=XL) (m:=[]) mixedQ (tbl_cons h51 (tbl_cons h52 tbl_nil)) itbl_nil fun args r h=>by
 unfold s129 at h
 split at h
 ·split at h
  ·rename_i hl
   split at h
   ·rename_i hd
    obtain ⟨rfl,hd⟩:=hd
    injection h with h; subst h; exact ⟨nAn,p129d m _ hd hl⟩
   ·split at h
    ·rename_i hd
     obtain ⟨rfl,hd⟩:=hd
     injection h with h; subst h; exact ⟨nAn,p129i m _ hd hl⟩
    ·cases h
  ·cases h
 ·cases h
theorem o127 (m:Int):ISpecOk PQ (GQ m) 127 s127:=ispec_of (X:=XL) (m:=[]) mixedQ (tbl_cons (o128 m) tbl_nil) itbl_nil fun args S p r h hp=>by
 unfold s127 at h
 split at h
 ·simp only [Option.some.injEq,Prod.mk.injEq] at h
  obtain ⟨h1,h2⟩:=h
  subst h1
  obtain ⟨rfl,⟨k1,k2⟩,⟨bs,rfl,k3,k4,k5⟩,qs,rfl,k6⟩:=hp
  rw [← h2,bytesD_mk]
  exact ⟨_,p127 m _ qs bs _ _ _ _ k1 k2 k4 k5 k3 k6⟩
 ·cases h
theorem o86 (m:Int) (h39:SpecOk PQ (GQ m) 129 s129) (h40:SpecOk PQ (GQ m) 130 s130):ISpecOk PQ (GQ m) 86 s86:=ispec_of (X:=XL) (m:=[]) mixedQ (tbl_cons (o128 m) (tbl_cons h39 (tbl_cons h40 (tbl_cons (o131 m) (tbl_cons (o132 m) tbl_nil))))) (itbl_cons (o127 m) itbl_nil) fun args S p r h hp=>by
 unfold s86 at h
 split at h
 ·rename_i es n b0 cs b2 p1 q1
  simp only [Option.some.injEq,Prod.mk.injEq] at h
  obtain ⟨h1,h2⟩:=h
  subst h1
  obtain ⟨rfl,⟨k1,k2⟩,bs,rfl,k3,k4,k5⟩:=hp
  rw [← h2,bytesD_mk]
  obtain ⟨k,rfl⟩:∃ k:Nat,n = k:=⟨n.toNat,by omega⟩
  exact ⟨_,p86 m k bs _ _ _ _ k1 k2 (by omega) k3⟩
 ·cases h
def s36:Spec:=fun args=>match args with
 | [.sl sz es .no]=>if sz = 1 then onBytes es fun bs=>some (r12 bs) else none
 | _=>none
theorem o84k (m:Int):SpecOk PQ (GQ m) 84 s84k:=spec_run mixedQ (lib8_ok m) fun args r h=>by
 unfold s84k at h
 split at h
 ·injection h with h; subst h; exact ⟨60,run84 m⟩
 ·cases h
theorem o36 (m:Int) (h39:SpecOk PQ (GQ m) 129 s129) (h40:SpecOk PQ (GQ m) 130 s130):SpecOk PQ (GQ m) 36 s36:=lax_of (X:=XL) (m:=[]) mixedQ (tbl_cons (o84k m) tbl_nil) (itbl_cons (o85 m) (itbl_cons (o86 m h39 h40) itbl_nil)) fun args r h=>by
 unfold s36 at h
 split at h
 ·split at h
  ·rename_i hsz
   subst hsz
   unfold onBytes at h
   split at h
   ·rename_i bs hb
    obtain rfl:=unBytes_some hb
    injection h with h; subst h; exact ⟨a36 bs,p36 m bs⟩
   ·cases h
  ·cases h
 ·cases h
end Go.Abs.Lx
namespace Go.Abs.Lx
open Go.Proofs L8 Go.RowKit
section
variable {P : Program} {G : Glob} {E : Env} {w w' : World}
theorem glob_ifc {g:Nat} (hG:GlobOk G E w) (h:G g = some .ifc):∃ t x,w.cell? ⟨g,0,none⟩ = some (.iface t x):=by
 have:=(hG g _ h).2.1
 generalize hv:Value.pointer (some ⟨g,0,none⟩) = v at this
 cases this with | elt _ _ _ _ b off u hcl hA hr h1 =>
 injection hv with hv
 injection hv with hv
 injection hv with h2 h3
 subst h2
 obtain ⟨_,h4⟩:=hA 0 _ 0 _ rfl rfl
 obtain ⟨t,x,h5⟩:=rep_ifc (hr 0 _ 0 _ rfl rfl)
 refine ⟨t,x,?_⟩
 rw [← h5,← h4]
 congr 2
theorem rep_tup2 {a b:AV} {u v:Value} (h1:Rep E w a u) (h2:Rep E w b v):Rep E w (.tup [a,b]) (.tuple #[u,v]):=by
 refine .tup _ _ rfl fun i c x hc hx=>?_
 match i,hc,hx with
 | 0,hc,hx=>simp at hc hx; subst hc; subst hx; exact h1
 | 1,hc,hx=>simp at hc hx; subst hc; subst hx; exact h2
 | i + 2,hc,hx=>simp at hc
theorem vs_one' {vs:Array Value} (h:vs.size = 1):∃ a,vs = #[a]:=vs_one h
end
theorem o89 (m:Int):SpecOk PQ (GQ m) 89 s89':=by
 intro g args r lv h E w vs hI hG hn' hv hcl
 simp only at h
 split at h
 case isFalse=>cases h
 case isTrue e =>
 subst e
 unfold s89' at h
 split at h
 case h_2=>cases h
 case h_1 l =>
 split at h
 case isFalse=>cases h
 case isTrue hl =>
 obtain ⟨hl,hi⟩:=hl
 obtain ⟨a,rfl⟩:=vs_one' hn'
 obtain ⟨s,rfl,hs⟩:=rep_str (hv 0 _ _ rfl rfl)
 have hsz:s.size = l.length:=by rw [size_data,hs]
 have ha:=atoi_digits hi
 by_cases h63:valX l≤9223372036854775807
 ·rw [if_pos h63] at h ha
  simp only [Option.some.injEq,Prod.mk.injEq] at h
  obtain ⟨rfl,rfl⟩:=h
  refine .inl ⟨goodQ (by kernel_rfl),(Tryz.strconv_Atoi_ok s (by omega) (valX l) (by rw [hs]; exact ha) w).mono fun e w' ⟨he,hw⟩=>⟨_,he,?_⟩⟩
  have hb:Below w.heap.size w w':=by
   rcases hw with rfl | ⟨t,rfl⟩
   ·exact Below.refl _ _
   ·exact Lib.bytesWorld_below _ _ _
  exact res_below hb fun B K=>rep_tup2 (.int _ _) (.lit _ rfl)
 ·rw [if_neg h63] at h ha
  simp only [Option.some.injEq,Prod.mk.injEq] at h
  obtain ⟨rfl,rfl⟩:=h
  obtain ⟨t,x,hx⟩:=glob_ifc (g:=3) hG rfl
  refine .inl ⟨goodQ (by kernel_rfl),(Tryz.strconv_Atoi_range s (by omega) (by rw [hs]; exact ha) _ w hx (.inr ⟨t,x,rfl⟩)).mono fun e w' ⟨N,he,_,_,hb⟩=>⟨_,he,?_⟩⟩
  have hsat:Lib.atoiSat s.data.toList = 9223372036854775807:=by
   rw [hs,Lib.atoiSat,if_neg]
   cases l with
   | nil=>simp
   | cons c t =>
    simp only [intB,Bool.and_eq_true,List.all_cons,digitB_iff] at hi
    simp
    omega
  rw [hsat]
  exact res_below hb fun B K=>rep_tup2 (.int _ _) (.ifc _ _)
end Go.Abs.Lx
namespace Go.Abs.Lx
open Go.Proofs L8
theorem dfold_succ {r:List UInt8} {i:Nat} (h:i < r.length):dfold (r.take (i + 1)) = dstep (dfold (r.take i)) r[i]:=by
 unfold dfold
 rw [List.take_succ_eq_append_getElem h,List.foldl_append]
 rfl
theorem dfold_fail {r:List UInt8} {i:Nat} (h:i < r.length) (hn:dstep (dfold (r.take i)) r[i] = none):dfold r = none:=by
 have e:r = r.take (i + 1) ++ r.drop (i + 1):=(List.take_append_drop _ _).symm
 have:=dfold_succ h
 rw [hn] at this
 conv=>lhs; rw [e]
 unfold dfold at this ⊢
 rw [List.foldl_append,this,dfold_none]
theorem valL_snoc (l:List UInt8) (c:UInt8):valX (l ++ [c]) = 10 * valX l + (c.toNat - 48):=by simp [valX]
theorem tens_at {j:Nat} (h:j≤6):takeAt PQ 3 [tensA] 0 j = some (.int .i64 ((10 ^ j:Nat):Int)):=by
 have ha:aggA PQ 3 = some false:=by kernel_rfl
 have hs:∃ s,sizeA PQ 3 = some s:=⟨1,by kernel_rfl⟩
 obtain ⟨s,hs⟩:=hs
 match j,h with
 | 0,_ | 1,_ | 2,_ | 3,_ | 4,_ | 5,_ | 6,_=>simp only [takeAt,List.getElem?_cons_zero,ha,hs,takeA,tensA,AV.cells]; rfl
theorem tdiv10 {x d:Int} (_hx:0≤x) (hd:0≤d) (hd9:d≤9):(IntKind.i64.wrap ((IntKind.i64.wrap (1152921504606846976 - IntKind.i64.wrap d)).tdiv 10) < x) ↔ 1152921504606846976 < 10 * x + d:=by
 rw [wrap64_in (n:=d) (by omega) (by omega),wrap64_in (n:=1152921504606846976 - d) (by omega) (by omega),Int.tdiv_eq_ediv_of_nonneg (by omega),wrap64_in (by omega) (by omega)]
 omega
theorem tdivp {x:Int} {p:Nat} (_hx:0≤x) (hp:0 < p) (hp6:p≤1000000):(IntKind.i64.wrap (Int.tdiv 1152921504606846976 p) < x) ↔ 1152921504606846976 < x * p:=by
 rw [Int.tdiv_eq_ediv_of_nonneg (by omega)]
 have h1:(1152921504606846976:Int) / p≤1152921504606846976:=Int.ediv_le_self _ (by omega)
 have h2:(0:Int)≤1152921504606846976 / p:=Int.ediv_nonneg (by omega) (by omega)
 rw [wrap64_in (by omega) (by omega),Int.ediv_lt_iff_lt_mul (by omega)]
theorem wrap8_in {n:Int} (h0:0≤n) (h1:n < 256):IntKind.u8.wrap n = n:=by
 simp only [IntKind.wrap,IntKind.bits,IntKind.signed]
 simp
 omega
theorem p162 (m:Int) (s:List UInt8) (hl:s.length≤1000000):PureOk PQ (GQ m) XL (tbl []) (itbl []) (a162 s) [] 162 [.str s] (.tup [.int .i64 (decP s).1,.int .i64 (decP s).2],[]):=by
 constructor
 rw [w162]; unfold w162c21 w162c11 w162c10 w162c9 w162c14 w162c4 w162c3 w162c19 w162c15 w162c8 w162c12 w162c13 w162c20 w162c18 w162c6 w162c1 w162c7 w162c16 w162c17 w162c2 w162c5 I6
 have hdec:decP s = decR (negB s) (restB s):=rfl
 have hrl:(restB s).length≤1000000:=by
  unfold restB; split
  ·rw [List.length_drop]; omega
  ·exact hl
 have fail:dfold (restB s) = none→decP s = (0,3):=fun h=>by rw [hdec,decR,h]
 simp only [valsAre_iff,stIs_iff,retIs_iff,decide_eq_true_eq,decide_eq_false_iff_not,gt_iff_lt,ge_iff_le,List.cons.injEq,AV.int.injEq,AV.tup.injEq,AV.str.injEq,AV.bool.injEq,Prod.mk.injEq,and_true,true_and,beq_iff_eq,beq_eq_false_iff_ne,ne_eq,Bool.not_eq_true',Bool.not_eq_false',Int.toNat_natCast,Nat.zero_add,Nat.mul_one,true_implies]
 have hptv:∀ (x:X162),Inv162 (restB s) x→(ptv x.i x.k < 0 ↔ x.k = none):=fun x hx=>by
  cases hk:x.k with
  | none=>simp [ptv]
  | some j =>
   have:=(hx.k j hk).1
   simp only [ptv,reduceCtorEq,iff_false]
   omega
 have hstep:∀ (i:Nat) (k:Option Nat),ptv i k = ptv (i + 1) (k.map (· + 1)):=fun i k=>by
  cases k with
  | none=>rfl
  | some j=>simp only [ptv,Option.map_some]; omega
 refine ⟨⟨fun hne=>⟨by omega,?_⟩,fun he=>⟨(),?_,?_⟩⟩,fun _=>⟨⟨⟨⟨0,[],none,0,false⟩,⟨rfl,rfl,rfl,rfl⟩,?_⟩,fun x hx=>?_⟩,fun x hx=>?_⟩⟩
 ·cases s with
  | nil=>exact absurd rfl hne
  | cons c t =>
   refine ⟨c,rfl,fun h=>⟨by omega,⟨by simp,Nat.le_refl _⟩,(),?_,?_⟩,fun h=>⟨(),?_,?_⟩⟩
   ·have hc:c = 45:=by rw [← UInt8.toNat_inj]; show c.toNat = 45; omega
    simp [restB,negB,hc]
   ·have hc:c = 45:=by rw [← UInt8.toNat_inj]; show c.toNat = 45; omega
    simp [negB,hc]
   ·have hc:c ≠ 45:=by rintro rfl; exact h rfl
    simp [restB,negB,hc]
   ·have hc:c ≠ 45:=by rintro rfl; exact h rfl
    simp [negB,hc]
 ·subst he; rfl
 ·subst he; rfl
 ·exact ⟨by simp,rfl,fun j h=>by simp at h,fun _=>rfl,fun _=>⟨rfl,by simp [valX]⟩,fun h=>by simp at h,by simp⟩
 ·have hpt:=hptv x hx
  obtain ⟨hi,hf,hk,hk0,hsm,hgr,hx0⟩:=hx
  have hend:¬ (x.i:Int) < (restB s).length→End162 (restB s) x:=fun h=>⟨⟨hi,hf,hk,hk0,hsm,hgr,hx0⟩,by omega⟩
  have core:∀ (hlt:x.i < (restB s).length) (c:UInt8),(restB s)[x.i] = c →
    (dstep (some (x.ds,x.k)) c = none→0 = (decP s).1∧3 = (decP s).2) ∧
    (∀ y:X162,y.i = x.i + 1→dstep (some (x.ds,x.k)) c = some (y.ds,y.k)→(∀ j,y.k = some j→j + 1≤y.i∧y.ds ≠ [])→(y.k = none→y.ds.length = y.i)→(y.big = false→y.x = valX y.ds∧valX y.ds≤1152921504606846976)→(y.big = true→1152921504606846976 < valX y.ds)→(0≤y.x∧y.x≤1152921504606846976)→Inv162 (restB s) y):=fun hlt c hc=>by
   constructor
   ·intro hn
    have:=fail (dfold_fail hlt (by rw [hf,hc]; exact hn))
    rw [this]; exact ⟨rfl,rfl⟩
   ·intro y hy hd h1 h2 h3 h4 h5
    exact ⟨by omega,by rw [hy,dfold_succ hlt,hf,hc]; exact hd,h1,h2,h3,h4,h5⟩
  have nodig:∀ c:UInt8,¬ (48≤c.toNat∧c.toNat≤57)→¬ (c = 46∧x.k = none∧x.ds ≠ [])→dstep (some (x.ds,x.k)) c = none:=fun c h1 h2=>by
   simp only [dstep]; rw [if_neg h2,if_neg (by rw [digitB_iff]; exact h1)]
  have dig:∀ c:UInt8,(48≤c.toNat∧c.toNat≤57)→dstep (some (x.ds,x.k)) c = some (x.ds ++ [c],x.k.map (· + 1)):=fun c h1=>by
   have:c ≠ 46:=by rintro rfl; simp at h1
   simp only [dstep]; rw [if_neg (fun h=>this h.1),if_pos (by rw [digitB_iff]; exact h1)]
  have kdig:∀ c:UInt8,(∀ j,x.k.map (· + 1) = some j→j + 1≤x.i + 1∧x.ds ++ [c] ≠ [])∧(x.k.map (· + 1) = none→(x.ds ++ [c]).length = x.i + 1):=fun c=>by
   constructor
   ·intro j hj
    cases hkk:x.k with
    | none=>rw [hkk] at hj; simp at hj
    | some a=>rw [hkk] at hj; simp at hj; have:=(hk a hkk).1; exact ⟨by omega,by simp⟩
   ·intro hj
    have:x.k = none:=by simpa using hj
    rw [List.length_append,hk0 this]; rfl
  have pt:∀ (hlt:x.i < (restB s).length) (c:UInt8),(restB s)[x.i] = c→(c.toNat:Int) = 46→ptv x.i x.k < 0→0 < (x.i:Int)→∃ y:X162,(x.x = y.x∧(x.i:Int) = ptv y.i y.k∧x.big = y.big∧IntKind.i64.wrap ((x.i:Int) + 1) = y.i)∧Inv162 (restB s) y∧(restB s).length - y.i < (restB s).length - x.i:=fun hlt c hc h46 hp h0=>by
   have hc46:c = 46:=by rw [← UInt8.toNat_inj]; show c.toNat = 46; omega
   have hkn:=hpt.1 hp
   have hdn:x.ds ≠ []:=by intro e; have:=hk0 hkn; rw [e] at this; simp at this; omega
   refine ⟨⟨x.i + 1,x.ds,some 0,x.x,x.big⟩,⟨rfl,by simp only [ptv]; omega,rfl,by rw [wrap64_in (by omega) (by omega)]; simp⟩,?_,by simp only; omega⟩
   refine (core hlt c hc).2 _ rfl ?_ ?_ ?_ hsm hgr hx0
   ·simp only [dstep]; rw [if_pos ⟨hc46,hkn,hdn⟩]
   ·intro j hj; simp at hj; subst hj; exact ⟨by simp,hdn⟩
   ·intro hj; simp at hj
  have bad:∀ (hlt:x.i < (restB s).length) (c:UInt8),(restB s)[x.i] = c→¬ ((c.toNat:Int) = 46∧ptv x.i x.k < 0∧0 < (x.i:Int))→((c.toNat:Int) < 48∨57 < (c.toNat:Int))→0 = (decP s).1∧3 = (decP s).2:=fun hlt c hc h1 h2=>by
   refine (core hlt c hc).1 (nodig c (by omega) ?_)
   rintro ⟨rfl,hkn,hdn⟩
   refine h1 ⟨rfl,hpt.2 hkn,?_⟩
   have:=hk0 hkn
   have:=List.length_pos_iff.2 hdn
   omega
  have dbig:∀ (hlt:x.i < (restB s).length) (c:UInt8),(restB s)[x.i] = c→¬ (c.toNat:Int) < 48→¬ 57 < (c.toNat:Int)→1152921504606846976 < valX (x.ds ++ [c])→∃ y:X162,(x.x = y.x∧ptv x.i x.k = ptv y.i y.k∧true = y.big∧IntKind.i64.wrap ((x.i:Int) + 1) = y.i)∧Inv162 (restB s) y∧(restB s).length - y.i < (restB s).length - x.i:=fun hlt c hc h1 h2 hv=>by
   refine ⟨⟨x.i + 1,x.ds ++ [c],x.k.map (· + 1),x.x,true⟩,⟨rfl,hstep _ _,rfl,by rw [wrap64_in (by omega) (by omega)]; simp⟩,?_,by simp only; omega⟩
   exact (core hlt c hc).2 _ rfl (dig c (by omega)) (kdig c).1 (kdig c).2 (fun h=>by simp at h) (fun _=>hv) hx0
  refine ⟨fun hb=>⟨fun hlt=>?_,fun hge=>⟨x,⟨rfl,rfl,hb.symm⟩,hend hge⟩⟩,fun hb=>⟨fun hlt=>?_,fun hge=>⟨x,⟨rfl,rfl,hb.symm⟩,hend hge⟩⟩⟩
  ·have hlt':x.i < (restB s).length:=by omega
   have hg:=hgr hb
   have pt':=pt hlt' _ rfl
   rw [hb] at pt'
   have hv:1152921504606846976 < valX (x.ds ++ [(restB s)[x.i]]):=by rw [valL_snoc]; omega
   have bad':=bad hlt' _ rfl
   have db:=fun h1 h2=>dbig hlt' _ rfl h1 h2 hv
   refine ⟨by omega,(restB s)[x.i],List.getElem?_eq_getElem hlt',?_⟩
   generalize (restB s)[x.i] = c at *
   exact ⟨fun h46=>⟨fun hp=>⟨fun h0=>pt' h46 hp h0,fun h0=>⟨fun h=>bad' (fun h'=>h0 h'.2.2) (.inl h),fun h=>⟨fun h'=>bad' (fun h''=>h0 h''.2.2) (.inr h'),fun h'=>db h h'⟩⟩⟩,fun hp=>⟨fun h=>bad' (fun h'=>hp h'.2.1) (.inl h),fun h=>⟨fun h'=>bad' (fun h''=>hp h''.2.1) (.inr h'),fun h'=>db h h'⟩⟩⟩,fun h46=>⟨fun h=>bad' (fun h'=>h46 h'.1) (.inl h),fun h=>⟨fun h'=>bad' (fun h''=>h46 h''.1) (.inr h'),fun h'=>db h h'⟩⟩⟩
  ·have hlt':x.i < (restB s).length:=by omega
   obtain ⟨hxv,hvm⟩:=hsm hb
   have pt':=pt hlt' _ rfl
   rw [hb] at pt'
   have bad':=bad hlt' _ rfl
   have db:=dbig hlt' (restB s)[x.i] rfl
   have core':=(core hlt' (restB s)[x.i] rfl).2
   refine ⟨by omega,(restB s)[x.i],List.getElem?_eq_getElem hlt',?_⟩
   generalize (restB s)[x.i] = c at *
   have dg:¬ (c.toNat:Int) < 48→¬ 57 < (c.toNat:Int)→¬ (10:Int) = 0∧(IntKind.i64.wrap ((IntKind.i64.wrap (1152921504606846976 - IntKind.i64.wrap (IntKind.u8.wrap ((c.toNat:Int) - 48)))).tdiv 10) < x.x→∃ y:X162,(x.x = y.x∧ptv x.i x.k = ptv y.i y.k∧true = y.big∧IntKind.i64.wrap ((x.i:Int) + 1) = y.i)∧Inv162 (restB s) y∧(restB s).length - y.i < (restB s).length - x.i) ∧
     (¬ IntKind.i64.wrap ((IntKind.i64.wrap (1152921504606846976 - IntKind.i64.wrap (IntKind.u8.wrap ((c.toNat:Int) - 48)))).tdiv 10) < x.x→∃ y:X162,(IntKind.i64.wrap (IntKind.i64.wrap (10 * x.x) + IntKind.i64.wrap (IntKind.u8.wrap ((c.toNat:Int) - 48))) = y.x∧ptv x.i x.k = ptv y.i y.k∧false = y.big∧IntKind.i64.wrap ((x.i:Int) + 1) = y.i)∧Inv162 (restB s) y∧(restB s).length - y.i < (restB s).length - x.i):=fun h1 h2=>by
    have hw8:IntKind.u8.wrap ((c.toNat:Int) - 48) = (c.toNat:Int) - 48:=wrap8_in (by omega) (by omega)
    rw [hw8,tdiv10 hx0.1 (by omega) (by omega)]
    have hvs:=valL_snoc x.ds c
    refine ⟨by omega,fun h=>db h1 h2 (by rw [hvs]; omega),fun h=>?_⟩
    rw [wrap64_in (n:=(c.toNat:Int) - 48) (by omega) (by omega),wrap64_in (n:=10 * x.x) (by omega) (by omega),wrap64_in (n:=10 * x.x + ((c.toNat:Int) - 48)) (by omega) (by omega)]
    refine ⟨⟨x.i + 1,x.ds ++ [c],x.k.map (· + 1),10 * x.x + ((c.toNat:Int) - 48),false⟩,⟨rfl,hstep _ _,rfl,by rw [wrap64_in (by omega) (by omega)]; simp⟩,?_,by simp only; omega⟩
    exact core' _ rfl (dig c (by omega)) (kdig c).1 (kdig c).2 (fun _=>by dsimp only; rw [hvs]; constructor <;> omega) (fun h=>by simp at h) (by simp only; omega)
   exact ⟨fun h46=>⟨fun hp=>⟨fun h0=>pt' h46 hp h0,fun h0=>⟨fun h=>bad' (fun h'=>h0 h'.2.2) (.inl h),fun h=>⟨fun h'=>bad' (fun h''=>h0 h''.2.2) (.inr h'),fun h'=>dg h h'⟩⟩⟩,fun hp=>⟨fun h=>bad' (fun h'=>hp h'.2.1) (.inl h),fun h=>⟨fun h'=>bad' (fun h''=>hp h''.2.1) (.inr h'),fun h'=>dg h h'⟩⟩⟩,fun h46=>⟨fun h=>bad' (fun h'=>h46 h'.1) (.inl h),fun h=>⟨fun h'=>bad' (fun h''=>h46 h''.1) (.inr h'),fun h'=>dg h h'⟩⟩⟩
 ·obtain ⟨hx,hie⟩:=hx
  have hpt:=hptv x hx
  obtain ⟨hi,hf,hk,hk0,hsm,hgr,hx0⟩:=hx
  rw [hie,List.take_length] at hf
  have hR:decP s = if x.ds = []∨x.k = some 0∨6 < x.k.getD 0 then (0,3) else decFin (negB s) (valX x.ds) (x.k.getD 0):=by rw [hdec,decR,hf]
  have hnil:restB s = [] ↔ x.i = 0:=by rw [hie]; exact List.length_eq_zero_iff.symm
  have hdw:∀ j,x.k = some j→IntKind.i64.wrap (IntKind.i64.wrap (((restB s).length:Int) - ptv x.i x.k) - 1) = j:=fun j hj=>by
   have:=(hk j hj).1
   simp only [hj,ptv]
   rw [wrap64_in (n:=((restB s).length:Int) - (x.i - j - 1)) (by omega) (by omega),wrap64_in (by omega) (by omega)]
   omega
  have ten:∀ j:Nat,j≤6→0 < 10 ^ (6 - j)∧10 ^ (6 - j)≤1000000:=fun j hj=>by
   constructor
   ·exact Nat.pow_pos (by omega)
   ·exact Nat.pow_le_pow_right (n:=10) (by omega) (show 6 - j≤6 by omega)
  have nofail:∀ j,x.ds ≠ []→(x.k = some j∧j ≠ 0∧j≤6∨x.k = none∧j = 0)→x.k.getD 0 = j→j≤6→¬ (x.ds = []∨x.k = some 0∨6 < x.k.getD 0):=fun j hd hj hkj h6=>by
   rintro (h | h | h)
   ·exact hd h
   ·rcases hj with ⟨h',h2,_⟩ | ⟨h',_⟩
    ·rw [h'] at h; simp only [Option.some.injEq] at h; exact h2 h
    ·rw [h'] at h; cases h
   ·rw [hkj] at h; omega
  have great:x.big = true→∀ j,x.ds ≠ []→(x.k = some j∧j ≠ 0∧j≤6∨x.k = none∧j = 0)→0 = (decP s).1∧2 = (decP s).2:=fun hb j hd hj=>by
   have hg:=hgr hb
   have hkj:x.k.getD 0 = j:=by rcases hj with ⟨h,_⟩ | ⟨h,h2⟩ <;> simp [h]; omega
   have h6:j≤6:=by omega
   rw [hR,if_neg (nofail j hd hj hkj h6),hkj,decFin,if_pos]
   ·exact ⟨rfl,rfl⟩
   ·have:=Nat.le_mul_of_pos_right (valX x.ds) (ten j h6).1
    omega
  have small:x.big = false→∀ j,x.ds ≠ []→(x.k = some j∧j ≠ 0∧j≤6∨x.k = none∧j = 0)→¬ ((10 ^ (6 - j):Nat):Int) = 0∧(IntKind.i64.wrap (Int.tdiv 1152921504606846976 ((10 ^ (6 - j):Nat):Int)) < x.x→0 = (decP s).1∧2 = (decP s).2) ∧
    (¬ IntKind.i64.wrap (Int.tdiv 1152921504606846976 ((10 ^ (6 - j):Nat):Int)) < x.x→(negB s = true→IntKind.i64.wrap (0 - IntKind.i64.wrap (x.x * ((10 ^ (6 - j):Nat):Int))) = (decP s).1∧0 = (decP s).2)∧(negB s = false→IntKind.i64.wrap (x.x * ((10 ^ (6 - j):Nat):Int)) = (decP s).1∧0 = (decP s).2)):=fun hb j hd hj=>by
   obtain ⟨hxv,hvm⟩:=hsm hb
   have hkj:x.k.getD 0 = j:=by rcases hj with ⟨h,_⟩ | ⟨h,h2⟩ <;> simp [h]; omega
   have h6:j≤6:=by omega
   obtain ⟨t1,t2⟩:=ten j h6
   rw [hR,if_neg (nofail j hd hj hkj h6),hkj,decFin,tdivp hx0.1 t1 t2,hxv]
   generalize hp:10 ^ (6 - j) = p at *
   have hmul:((valX x.ds:Nat):Int) * (p:Int) = ((valX x.ds * p:Nat):Int):=by simp
   rw [hmul]
   generalize valX x.ds * p = q
   refine ⟨by omega,fun h=>?_,fun h=>?_⟩
   ·rw [if_pos (by omega)]; exact ⟨rfl,rfl⟩
   ·rw [if_neg (by omega),wrap64_in (n:=(q:Int)) (by omega) (by omega),wrap64_in (n:=0 - (q:Int)) (by omega) (by omega)]
    refine ⟨fun hn=>?_,fun hn=>?_⟩
    ·rw [hn,if_pos rfl]; exact ⟨by dsimp only; omega,rfl⟩
    ·rw [hn,if_neg (by simp)]; exact ⟨rfl,rfl⟩
  have f0:x.ds = []→0 = (decP s).1∧3 = (decP s).2:=fun h=>by rw [hR,if_pos (.inl h)]; exact ⟨rfl,rfl⟩
  have fk:∀ j,x.k = some j→(j = 0∨6 < j)→0 = (decP s).1∧3 = (decP s).2:=fun j h h2=>by
   rw [hR,if_pos]
   ·exact ⟨rfl,rfl⟩
   ·rcases h2 with rfl | h2
    ·exact .inr (.inl h)
    ·exact .inr (.inr (by rw [h]; exact h2))
  cases hkx:x.k with
  | none =>
   have hneg:¬ 0≤ptv x.i none:=by simp [ptv]
   have hl0:=hk0 hkx
   have hd1:restB s = []→x.ds = []:=fun h=>List.length_eq_zero_iff.1 (by rw [hl0]; exact hnil.1 h)
   have hd2:¬ restB s = []→x.ds ≠ []:=fun h e=>h (hnil.2 (by rw [← hl0,e]; rfl))
   have g2:=fun hb hr=>great hb 0 (hd2 hr) (.inr ⟨hkx,rfl⟩)
   have s2:=fun hb hr=>small hb 0 (hd2 hr) (.inr ⟨hkx,rfl⟩)
   rw [show ((10 ^ (6 - 0):Nat):Int) = 1000000 from rfl] at s2
   refine ⟨fun hb=>⟨fun hn=>⟨fun h=>absurd h hneg,fun _=>⟨fun h=>f0 (hd1 h),fun h=>⟨⟨by omega,by omega⟩,1000000,rfl,g2 hb h⟩⟩⟩,fun hn=>⟨fun h=>absurd h hneg,fun _=>⟨fun h=>f0 (hd1 h),fun h=>⟨⟨by omega,by omega⟩,1000000,rfl,g2 hb h⟩⟩⟩⟩,
    fun hb=>⟨fun hn=>⟨fun h=>absurd h hneg,fun _=>⟨fun h=>f0 (hd1 h),fun h=>⟨⟨by omega,by omega⟩,1000000,rfl,(s2 hb h).1,(s2 hb h).2.1,fun h'=>((s2 hb h).2.2 h').1 hn⟩⟩⟩,fun hn=>⟨fun h=>absurd h hneg,fun _=>⟨fun h=>f0 (hd1 h),fun h=>⟨⟨by omega,by omega⟩,1000000,rfl,(s2 hb h).1,(s2 hb h).2.1,fun h'=>((s2 hb h).2.2 h').2 hn⟩⟩⟩⟩⟩
  | some j =>
   have hw:=hdw j hkx
   rw [hkx] at hw
   have hkj:=hk j hkx
   have hpos:0≤ptv x.i (some j):=by simp only [ptv]; omega
   have hw6:j≤6→IntKind.i64.wrap (6 - (j:Int)) = ((6 - j:Nat):Int):=fun h=>by rw [wrap64_in (by omega) (by omega)]; omega
   simp only [hw]
   have g2:=fun hb (h1:¬ (j:Int) = 0) (h2:¬ 6 < (j:Int))=>great hb j hkj.2 (.inl ⟨hkx,by omega,by omega⟩)
   have s2:=fun hb (h1:¬ (j:Int) = 0) (h2:¬ 6 < (j:Int))=>small hb j hkj.2 (.inl ⟨hkx,by omega,by omega⟩)
   have tk:=fun (h2:¬ 6 < (j:Int))=>show takeAt PQ 3 [tensA] 0 (IntKind.i64.wrap (6 - (j:Int))).toNat = some (.int .i64 ((10 ^ (6 - j):Nat):Int)) by rw [hw6 (by omega),Int.toNat_natCast]; exact tens_at (by omega)
   have bd:=fun (h2:¬ 6 < (j:Int))=>show 0≤IntKind.i64.wrap (6 - (j:Int))∧IntKind.i64.wrap (6 - (j:Int)) < 7 by rw [hw6 (by omega)]; omega
   have e0:restB s = []→0 = (decP s).1∧3 = (decP s).2:=fun h=>by have:=hnil.1 h; omega
   refine ⟨fun hb=>⟨fun hn=>⟨fun _=>⟨fun h=>fk j hkx (.inl (by omega)),fun h1=>⟨fun h=>fk j hkx (.inr (by omega)),fun h2=>⟨e0,fun _=>⟨bd h2,_,tk h2,g2 hb h1 h2⟩⟩⟩⟩,fun h=>absurd hpos h⟩,fun hn=>⟨fun _=>⟨fun h=>fk j hkx (.inl (by omega)),fun h1=>⟨fun h=>fk j hkx (.inr (by omega)),fun h2=>⟨e0,fun _=>⟨bd h2,_,tk h2,g2 hb h1 h2⟩⟩⟩⟩,fun h=>absurd hpos h⟩⟩,
    fun hb=>⟨fun hn=>⟨fun _=>⟨fun h=>fk j hkx (.inl (by omega)),fun h1=>⟨fun h=>fk j hkx (.inr (by omega)),fun h2=>⟨e0,fun _=>⟨bd h2,_,tk h2,(s2 hb h1 h2).1,(s2 hb h1 h2).2.1,fun h'=>((s2 hb h1 h2).2.2 h').1 hn⟩⟩⟩⟩,fun h=>absurd hpos h⟩,fun hn=>⟨fun _=>⟨fun h=>fk j hkx (.inl (by omega)),fun h1=>⟨fun h=>fk j hkx (.inr (by omega)),fun h2=>⟨e0,fun _=>⟨bd h2,_,tk h2,(s2 hb h1 h2).1,(s2 hb h1 h2).2.1,fun h'=>((s2 hb h1 h2).2.2 h').2 hn⟩⟩⟩⟩,fun h=>absurd hpos h⟩⟩⟩
theorem o162' (m:Int):SpecOk PQ (GQ m) 162 s162':=spec_of (X:=XL) (m:=[]) mixedQ tbl_nil itbl_nil fun args r h=>by
 unfold s162' at h
 split at h
 ·rename_i l
  split at h
  ·rename_i hl
   injection h with h; subst h
   have hp:=p162 m l hl.1
   rw [decP_decB hl.2] at hp
   exact ⟨a162 _,hp⟩
  ·cases h
 ·cases h
theorem o129' (m:Int):SpecOk PQ (GQ m) 129 s129:=o129 m (o162' m) (o89 m)
end Go.Abs.Lx
namespace Go.Abs.Lx
open Go.Proofs L8
def sAt (p:List UInt8→Nat→Prop) [∀ bs a,Decidable (p bs a)] (f:List UInt8→Nat→AV):Spec:=fun args=>match args with
 | [.sl sz es .no,.int .i64 n]=>if sz = 1 then onBytes es fun bs=>if 0≤n∧n.toNat≤bs.length∧bs.length≤1000000∧p bs n.toNat then some (f bs n.toNat,[]) else none else none
 | _=>none
theorem sAt_eq {p:List UInt8→Nat→Prop} [∀ bs a,Decidable (p bs a)] {f:List UInt8→Nat→AV} {bs:List UInt8} {a:Nat} (h1:a≤bs.length) (h2:bs.length≤1000000) (h3:p bs a):sAt p f [.sl 1 (bytesL bs) .no,.int .i64 a] = some (f bs a,[]):=by
 simp only [sAt,onBytes,unBytes_mk,if_true]
 rw [if_pos ⟨by omega,by simpa using h1,h2,by simpa using h3⟩]
 simp
theorem sAt_of {X:Shapes} {R:Callee} {C:CCallee} {m:Int} {g:FuncId} {p:List UInt8→Nat→Prop} [∀ bs a,Decidable (p bs a)] {f:List UInt8→Nat→AV} (hR:CalleeOk PQ (GQ m) R) (hC:ICalleeOk PQ (GQ m) (lowC C))
  (h:∀ bs a,a≤bs.length→bs.length≤1000000→p bs a→∃ A,PureOk PQ (GQ m) X R C A [] g [.sl 1 (bytesL bs) .no,.int .i64 (a:Nat)] (f bs a,[])):SpecOk PQ (GQ m) g (sAt p f):=spec_of (X:=X) (m:=[]) mixedQ hR hC fun args r h'=>by
 unfold sAt at h'
 split at h'
 ·rename_i sz es n
  split at h'
  ·rename_i hsz
   subst hsz
   unfold onBytes at h'
   split at h'
   ·rename_i bs hb
    obtain rfl:=unBytes_some hb
    simp only at h'
    split at h'
    ·rename_i hc
     injection h' with h'; subst h'
     obtain ⟨A,hA⟩:=h bs n.toNat hc.2.1 hc.2.2.1 hc.2.2.2
     rw [Int.toNat_of_nonneg hc.1] at hA
     exact ⟨A,hA⟩
    ·cases h'
   ·cases h'
  ·cases h'
 ·cases h'
def signLen:List UInt8→Int
 | []=>0
 | c :: t=>if eqSgB c && (t.head?.getD 0 == 61) then 2 else if signB c then 1 else 0
def tokTk (l:List UInt8) (a:Nat):TkX:=if (piece l).1 = -1∨((piece l).2.2 ≠ 0∧(piece l).1 ≠ 3) then ⟨0,[],0⟩ else ⟨(piece l).1,txtOf l,a⟩
def tokN (l:List UInt8):Int:=if (piece l).1 = -1 then 0 else (piece l).2.1
def tokR (l:List UInt8) (a:Nat):AV:=.tup [tokA (tokTk l a),.int .i64 (tokN l),.int .i64 (piece l).2.2]
def skipL:Bool→List UInt8→Nat
 | _,[]=>0
 | cm,c :: t=>if (cm && c != 10) || blankB c || c == 35 then 1 + skipL (c != 10 && (cm || c == 35)) t else 0
def lt:List UInt8→Nat→Prop:=fun bs a=>a < bs.length
instance (bs : List UInt8) (a : Nat) : Decidable (lt bs a) := inferInstanceAs (Decidable (_ < _))
def isDig:List UInt8→Nat→Prop:=fun bs a=>a < bs.length∧digitB (bs.getD a 0) = true
instance (bs : List UInt8) (a : Nat) : Decidable (isDig bs a) := inferInstanceAs (Decidable (_ ∧ _))
def isQuo:List UInt8→Nat→Prop:=fun bs a=>a < bs.length∧bs.getD a 0 = 34
instance (bs : List UInt8) (a : Nat) : Decidable (isQuo bs a) := inferInstanceAs (Decidable (_ ∧ _))
def noSkip (c:UInt8):Bool:=!(blankB c || c == 35)
def isTok:List UInt8→Nat→Prop:=fun bs a=>a < bs.length∧noSkip (bs.getD a 0) = true
instance (bs : List UInt8) (a : Nat) : Decidable (isTok bs a) := inferInstanceAs (Decidable (_ ∧ _))
def any0:List UInt8→Nat→Prop:=fun _ _=>True
instance (bs : List UInt8) (a : Nat) : Decidable (any0 bs a) := inferInstanceAs (Decidable True)
def s177:Spec:=sAt any0 fun bs a=>.int .i64 ((bs.drop a).takeWhile digitB).length
def s123t:Spec:=sAt lt fun bs a=>.int .i64 (wl (bs.drop a))
def s143:Spec:=sAt lt fun bs a=>.int .i64 (signLen (bs.drop a))
def s141:Spec:=sAt isDig fun bs a=>tokR (bs.drop a) a
def s142:Spec:=sAt isQuo fun bs a=>tokR (bs.drop a) a
def s96:Spec:=sAt isTok fun bs a=>tokR (bs.drop a) a
def s95:Spec:=sAt any0 fun bs a=>.int .i64 (a + skipL false (bs.drop a):Nat)
def s179:Spec:=fun args=>match args with
 | [.str l]=>if l.length≤1000000∧l.all digitB = true then some (.bool (decide (2 ^ 60 < valX l)),[]) else none
 | _=>none
def shTok:Sh × Option TypeId:=(.tup [.agg [.int .i64,.str,.int .i64],.one (.int .i64),.one (.int .i64)],none)
def s139:Spec:=fun args=>match args with | [.int .u8 n]=>some (.bool (decide (n = 9∨n = 10∨n = 13∨n = 32)),[]) | _=>none
def XR:Shapes:=fun f=>match f with
 | 95 | 123 | 143 | 177=>some shI
 | 139 | 140 | 160 | 179=>some shB
 | 96 | 141 | 142=>some shTok
 | 178=>some shTI
 | _=>none
def a177 (bs:List UInt8) (a:Nat):Anns:=⟨fun k=>if k = 2 then some { α:=Nat,slots:=[0,1,5],nb:=0,vals:=fun n=>[bytesA bs,.int .i64 a,.int .i64 n],sS:=fun _=>⟨[],[]⟩,I:=fun n=>n≤((bs.drop a).takeWhile digitB).length,μ:=fun n=>bs.length - n } else none,nA⟩
def a179 (l:List UInt8):Anns:=⟨fun k=>if k = 3 then some { α:=Nat,slots:=[0,3,4],nb:=0,vals:=fun i=>[.str l,.int .i64 (valX (l.take i)),.int .i64 i],sS:=fun _=>⟨[],[]⟩,I:=fun i=>i≤l.length∧valX (l.take i)≤1152921504606846979,μ:=fun i=>l.length - i } else none,nA⟩
structure X95 where
 p:Nat
 cm:Bool
def a95 (bs:List UInt8) (a:Nat):Anns:=⟨fun k=>if k = 2 then some { α:=X95,slots:=[0,1,5],nb:=0,vals:=fun x=>[bytesA bs,.int .i64 x.p,.bool x.cm],sS:=fun _=>⟨[],[]⟩,I:=fun x=>x.p≤bs.length∧x.p + skipL x.cm (bs.drop x.p) = a + skipL false (bs.drop a),μ:=fun x=>bs.length - x.p,bools:=[5] } else none,nA⟩
def tokS:St:=⟨[some [.int .i64 0,.str [],.int .i64 0]],[]⟩
def a142 (bs:List UInt8) (a:Nat):Anns:=⟨fun k=>match k with
 | 2=>some { α:=Nat,slots:=[0,1,4,7],nb:=1,vals:=fun n=>[bytesA bs,.int .i64 a,.ptr 0 0,.int .i64 (1 + n:Nat)],sS:=fun _=>tokS,I:=fun n=>n≤((bs.drop (a + 1)).takeWhile lineB).length,μ:=fun n=>bs.length - n }
 | 10=>some { α:=Nat,slots:=[1,4,7,8,9],nb:=1,vals:=fun i=>[.int .i64 a,.ptr 0 0,.int .i64 (1 + ((bs.drop (a + 1)).takeWhile lineB).length:Nat),.str ((bs.drop (a + 1)).takeWhile lineB),.int .i64 i],sS:=fun _=>tokS,I:=fun i=>i≤((bs.drop (a + 1)).takeWhile lineB).length∧(((bs.drop (a + 1)).takeWhile lineB).take i).any badB = false,μ:=fun i=>bs.length - i }
 | 1000004=>some { α:=Unit,slots:=[0,1,4,7],nb:=1,vals:=fun _=>[bytesA bs,.int .i64 a,.ptr 0 0,.int .i64 (1 + ((bs.drop (a + 1)).takeWhile lineB).length:Nat)],sS:=fun _=>tokS,I:=fun _=>True,μ:=fun _=>0 }
 | 1000006=>some { α:=Unit,slots:=[0,1,4,7],nb:=1,vals:=fun _=>[bytesA bs,.int .i64 a,.ptr 0 0,.int .i64 (1 + ((bs.drop (a + 1)).takeWhile lineB).length:Nat)],sS:=fun _=>tokS,I:=fun _=>((bs.drop (a + 1)).drop ((bs.drop (a + 1)).takeWhile lineB).length).head? = some 34,μ:=fun _=>0 }
 | _=>none,nA⟩
structure X47 where
 l:List TkX
 b:List PbX
 p:Nat
 adj:Bool
structure Inv47 (bs:List UInt8) (x:X47):Prop where
 small:bs.length≤16384
 len:x.l.length≤x.p
 p:x.p≤bs.length
 l:x.l ++ (scan (bs.drop x.p) x.p x.adj).1 = (scan bs 0 false).1
 b:x.b ++ (scan (bs.drop x.p) x.p x.adj).2 = (scan bs 0 false).2
 tok:x.p < bs.length→noSkip (bs.getD x.p 0) = true
def adjR (bs:List UInt8) (x:X47):X47:=⟨x.l,x.b ++ pbOf (bs.drop x.p) x.p x.adj,x.p,x.adj⟩
def adjT (bs:List UInt8) (x:X47):X47:=⟨x.l ++ tkOf (bs.drop x.p) x.p,x.b ++ pbOf (bs.drop x.p) x.p x.adj,x.p,x.adj⟩
structure Inv11 (bs:List UInt8) (y:X47):Prop where
 h:∃ x,Inv47 bs x∧x.p < bs.length∧y = adjR bs x
structure Inv47c (bs:List UInt8) (y:X47):Prop where
 h:∃ x,Inv47 bs x∧x.p < bs.length∧y = adjT bs x
def st47 (bs:List UInt8) (x:X47):St:=⟨[some [.int .i64 (tokTk (bs.drop x.p) x.p).kind,.str (tokTk (bs.drop x.p) x.p).text,.int .i64 (tokTk (bs.drop x.p) x.p).at_]],[(x.l.length,99),((x.b.take 32).length,86)]⟩
def a47 (bs:List UInt8):Anns:=⟨fun k=>match k with
 | 7=>some { α:=X47,slots:=[0,5,6,7,8],nb:=0,vals:=fun x=>[bytesA bs,tkA x.l (.tok 0),badA (x.b.take 32) (.tok 1),.int .i64 x.p,.bool x.adj],sS:=fun x=>⟨[],[(x.l.length,99),((x.b.take 32).length,86)]⟩,I:=Inv47 bs,μ:=fun x=>bs.length - x.p,mint:=[(5,99),(6,86)],bools:=[8] }
 | 1000011=>some { α:=X47,slots:=[0,5,6,7,9,10,11],nb:=1,vals:=fun x=>[bytesA bs,tkA x.l (.tok 0),badA (x.b.take 32) (.tok 1),.int .i64 x.p,.ptr 0 0,.int .i64 (tokN (bs.drop x.p)),.int .i64 (piece (bs.drop x.p)).2.2],sS:=st47 bs,I:=Inv11 bs,μ:=fun _=>0,rel:=fun T y=>T.getD 7 (.tup []) = .int .i64 y.p }
 | 1000013=>some { α:=X47,slots:=[0,5,6,7,10],nb:=1,vals:=fun x=>[bytesA bs,tkA x.l (.tok 0),badA (x.b.take 32) (.tok 1),.int .i64 x.p,.int .i64 (tokN (bs.drop x.p))],sS:=st47 bs,I:=Inv47c bs,μ:=fun _=>0,rel:=fun T y=>T.getD 7 (.tup []) = .int .i64 y.p }
 | _=>none,nA⟩
end Go.Abs.Lx
namespace Go.Abs.Lx
open Go.Proofs L8
theorem w177 (m:Int) (bs:List UInt8) (a:Nat):(pureW PQ (GQ m) XR (tbl [(140,s140)]) (itbl []) (a177 bs a) [] 177 [bytesA bs,.int .i64 a] (.int .i64 ((bs.drop a).takeWhile digitB).length,[])) =
((∃ (y:Nat),ValsAre [AV.sl 1 (bytesL bs) Own.no,I6 (↑a:Int),I6 0] [AV.sl 1 (bytesL bs) Own.no,I6 (↑a:Int),I6 (↑y:Int)]∧StIs { boxes:=[],live:=[] } { boxes:=[],live:=[] }∧y≤(List.takeWhile digitB (List.drop a bs)).length∧True)∧∀ (x:Nat),x≤(List.takeWhile digitB (List.drop a bs)).length→(decide (IntKind.i64.wrap ((↑a:Int) + (↑x:Int)) < (↑(bytesL bs).length:Int)) = true→((0:Int)≤IntKind.i64.wrap ((↑a:Int) + (↑x:Int))∧IntKind.i64.wrap ((↑a:Int) + (↑x:Int)) < (↑(bytesL bs).length:Int))∧∃ (n:Int),takeAt PQ 5 (bytesL bs) (IntKind.i64.wrap ((↑a:Int) + (↑x:Int))).toNat 0 = some (AV.int IntKind.u8 n)∧∃ (b:Bool),CallIs (some (AV.bool (decide ((48:Int)≤n∧n≤(57:Int))),[])) (AV.bool b) []∧(b = true→∃ (y:Nat),ValsAre [AV.sl 1 (bytesL bs) Own.no,I6 (↑a:Int),I6 (IntKind.i64.wrap ((↑x:Int) + (1:Int)))] [AV.sl 1 (bytesL bs) Own.no,I6 (↑a:Int),I6 (↑y:Int)]∧StIs { boxes:=[],live:=[] } { boxes:=[],live:=[] }∧y≤(List.takeWhile digitB (List.drop a bs)).length∧bs.length - y < bs.length - x)∧(b = false→RetIs (I6 (↑x:Int)) [] (I6 (↑(List.takeWhile digitB (List.drop a bs)).length:Int),[])))∧(decide (IntKind.i64.wrap ((↑a:Int) + (↑x:Int)) < (↑(bytesL bs).length:Int)) = false→RetIs (I6 (↑x:Int)) [] (I6 (↑(List.takeWhile digitB (List.drop a bs)).length:Int),[]))):=by kernel_rfl
theorem w179 (m:Int) (l:List UInt8):(pureW PQ (GQ m) XR (tbl []) (itbl []) (a179 l) [] 179 [.str l] (.bool (decide (2 ^ 60 < valX l)),[])) =
((∃ (y:Nat),ValsAre [AV.str l,I6 0,I6 0] [AV.str l,I6 (↑(valX (List.take y l)):Int),I6 (↑y:Int)]∧StIs { boxes:=[],live:=[] } { boxes:=[],live:=[] }∧(y≤l.length∧valX (List.take y l)≤(1152921504606846979:Nat))∧True)∧∀ (x:Nat),x≤l.length∧valX (List.take x l)≤(1152921504606846979:Nat)→(decide ((↑x:Int) < (↑l.length:Int)) = true→(decide ((↑(valX (List.take x l)):Int) > (115292150460684697:Int)) = true→RetIs (AV.bool true) [] (AV.bool (decide ((1152921504606846976:Nat) < valX l)),[]))∧(decide ((↑(valX (List.take x l)):Int) > (115292150460684697:Int)) = false→(0:Int)≤(↑x:Int)∧∃ (c:UInt8),l[(↑x:Int).toNat]? = some c∧∃ (y:Nat),ValsAre [AV.str l,I6 (IntKind.i64.wrap (IntKind.i64.wrap ((10:Int) * (↑(valX (List.take x l)):Int)) + IntKind.i64.wrap (IntKind.u8.wrap ((↑c.toNat:Int) - (48:Int))))),I6 (IntKind.i64.wrap ((↑x:Int) + (1:Int)))] [AV.str l,I6 (↑(valX (List.take y l)):Int),I6 (↑y:Int)]∧StIs { boxes:=[],live:=[] } { boxes:=[],live:=[] }∧(y≤l.length∧valX (List.take y l)≤(1152921504606846979:Nat))∧l.length - y < l.length - x))∧(decide ((↑x:Int) < (↑l.length:Int)) = false→(decide ((↑(valX (List.take x l)):Int) > (1152921504606846976:Int)) = true→RetIs (AV.bool true) [] (AV.bool (decide ((1152921504606846976:Nat) < valX l)),[]))∧(decide ((↑(valX (List.take x l)):Int) > (1152921504606846976:Int)) = false→RetIs (AV.bool false) [] (AV.bool (decide ((1152921504606846976:Nat) < valX l)),[])))):=by kernel_rfl
abbrev w95c8 (x:X95):=IntKind.i64.wrap ((↑x.p:Int) + (1:Int))
abbrev w95c5 (bs:List UInt8) (y:X95):List AV:=[AV.sl 1 (bytesL bs) Own.no,AV.int IntKind.i64 (↑y.p:Int),AV.bool y.cm]
abbrev w95c6 (y:X95) (bs:List UInt8) (a:Nat):Prop:=y.p≤bs.length∧y.p + skipL y.cm (List.drop y.p bs) = a + skipL false (List.drop a bs)
abbrev w95c1 (n:Int) (bs:List UInt8) (x:X95) (a:Nat):Prop:=(n != (10:Int)) = false→∃ (y:X95),ValsAre [AV.sl 1 (bytesL bs) Own.no,AV.int IntKind.i64 (w95c8 x),AV.bool false] (w95c5 bs y)∧StIs { boxes:=[],live:=[] } { boxes:=[],live:=[] }∧(w95c6 y bs a)∧bs.length - y.p < bs.length - x.p
abbrev w95c4 (x:X95) (bs:List UInt8):Prop:=(0:Int)≤(↑x.p:Int)∧(↑x.p:Int) < (↑(bytesL bs).length:Int)
abbrev w95c2 (n:Int) (x:X95) (bs:List UInt8) (a:Nat):Prop:=(n != (10:Int)) = true→(w95c4 x bs)∧∃ (n:Int),takeAt PQ 5 (bytesL bs) (↑x.p:Int).toNat 0 = some (AV.int IntKind.u8 n)∧((n == (35:Int)) = true→∃ (y:X95),ValsAre [AV.sl 1 (bytesL bs) Own.no,AV.int IntKind.i64 (w95c8 x),AV.bool true] (w95c5 bs y)∧StIs { boxes:=[],live:=[] } { boxes:=[],live:=[] }∧(w95c6 y bs a)∧bs.length - y.p < bs.length - x.p)∧((n == (35:Int)) = false→∃ (y:X95),ValsAre [AV.sl 1 (bytesL bs) Own.no,AV.int IntKind.i64 (w95c8 x),AV.bool false] (w95c5 bs y)∧StIs { boxes:=[],live:=[] } { boxes:=[],live:=[] }∧(w95c6 y bs a)∧bs.length - y.p < bs.length - x.p)
abbrev w95c3 (n:Int) (bs:List UInt8) (x:X95) (a:Nat):Prop:=(n != (10:Int)) = true→∃ (y:X95),ValsAre [AV.sl 1 (bytesL bs) Own.no,AV.int IntKind.i64 (w95c8 x),AV.bool true] (w95c5 bs y)∧StIs { boxes:=[],live:=[] } { boxes:=[],live:=[] }∧(w95c6 y bs a)∧bs.length - y.p < bs.length - x.p
abbrev w95c7 (a:Nat) (bs:List UInt8):AV × List (Nat × TypeId):=(AV.int IntKind.i64 (↑(a + skipL false (List.drop a bs)):Int),[])
theorem w95 (m:Int) (bs:List UInt8) (a:Nat):(pureW PQ (GQ m) XR (tbl [(139,s139)]) (itbl []) (a95 bs a) [] 95 [bytesA bs,.int .i64 a] (.int .i64 (a + skipL false (bs.drop a):Nat),[])) =
((∃ (y:X95),ValsAre [AV.sl 1 (bytesL bs) Own.no,I6 (↑a:Int),AV.bool false] (w95c5 bs y)∧StIs { boxes:=[],live:=[] } { boxes:=[],live:=[] }∧(w95c6 y bs a)∧True)∧∀ (x:X95),x.p≤bs.length∧x.p + skipL x.cm (List.drop x.p bs) = a + skipL false (List.drop a bs)→(x.cm = true→(decide ((↑x.p:Int) < (↑(bytesL bs).length:Int)) = true→(w95c4 x bs)∧∃ (n:Int),takeAt PQ 5 (bytesL bs) (↑x.p:Int).toNat 0 = some (AV.int IntKind.u8 n)∧((n != (10:Int)) = true→(w95c4 x bs)∧∃ (n:Int),takeAt PQ 5 (bytesL bs) (↑x.p:Int).toNat 0 = some (AV.int IntKind.u8 n)∧(w95c3 n bs x a)∧(w95c1 n bs x a))∧((n != (10:Int)) = false→(w95c4 x bs)∧∃ (n:Int),takeAt PQ 5 (bytesL bs) (↑x.p:Int).toNat 0 = some (AV.int IntKind.u8 n)∧∃ (b:Bool),CallIs (some (AV.bool (decide (n = (9:Int)∨n = (10:Int)∨n = (13:Int)∨n = (32:Int))),[])) (AV.bool b) []∧(b = true→(w95c4 x bs)∧∃ (n:Int),takeAt PQ 5 (bytesL bs) (↑x.p:Int).toNat 0 = some (AV.int IntKind.u8 n)∧(w95c3 n bs x a)∧(w95c1 n bs x a))∧(b = false→(w95c4 x bs)∧∃ (n:Int),takeAt PQ 5 (bytesL bs) (↑x.p:Int).toNat 0 = some (AV.int IntKind.u8 n)∧((n == (35:Int)) = true→(w95c4 x bs)∧∃ (n:Int),takeAt PQ 5 (bytesL bs) (↑x.p:Int).toNat 0 = some (AV.int IntKind.u8 n)∧(w95c3 n bs x a)∧(w95c1 n bs x a))∧((n == (35:Int)) = false→RetIs (I6 (↑x.p:Int)) [] (w95c7 a bs)))))∧(decide ((↑x.p:Int) < (↑(bytesL bs).length:Int)) = false→RetIs (I6 (↑x.p:Int)) [] (w95c7 a bs)))∧(x.cm = false→(decide ((↑x.p:Int) < (↑(bytesL bs).length:Int)) = true→(w95c4 x bs)∧∃ (n:Int),takeAt PQ 5 (bytesL bs) (↑x.p:Int).toNat 0 = some (AV.int IntKind.u8 n)∧∃ (b:Bool),CallIs (some (AV.bool (decide (n = (9:Int)∨n = (10:Int)∨n = (13:Int)∨n = (32:Int))),[])) (AV.bool b) []∧(b = true→(w95c4 x bs)∧∃ (n:Int),takeAt PQ 5 (bytesL bs) (↑x.p:Int).toNat 0 = some (AV.int IntKind.u8 n)∧(w95c2 n x bs a)∧(w95c1 n bs x a))∧(b = false→(w95c4 x bs)∧∃ (n:Int),takeAt PQ 5 (bytesL bs) (↑x.p:Int).toNat 0 = some (AV.int IntKind.u8 n)∧((n == (35:Int)) = true→(w95c4 x bs)∧∃ (n:Int),takeAt PQ 5 (bytesL bs) (↑x.p:Int).toNat 0 = some (AV.int IntKind.u8 n)∧(w95c2 n x bs a)∧(w95c1 n bs x a))∧((n == (35:Int)) = false→RetIs (I6 (↑x.p:Int)) [] (w95c7 a bs))))∧(decide ((↑x.p:Int) < (↑(bytesL bs).length:Int)) = false→RetIs (I6 (↑x.p:Int)) [] (w95c7 a bs)))):=by kernel_rfl
theorem w139 (m:Int) (n:Int):(pureW PQ (GQ m) XR (tbl []) (itbl []) ⟨nA,nA⟩ [] 139 [.int .u8 n] (.bool (decide (n = 9∨n = 10∨n = 13∨n = 32)),[])) =
(((n == (9:Int)) = true→RetIs (AV.bool true) [] (AV.bool (decide (n = (9:Int)∨n = (10:Int)∨n = (13:Int)∨n = (32:Int))),[]))∧((n == (9:Int)) = false→((n == (10:Int)) = true→RetIs (AV.bool true) [] (AV.bool (decide (n = (9:Int)∨n = (10:Int)∨n = (13:Int)∨n = (32:Int))),[]))∧((n == (10:Int)) = false→((n == (13:Int)) = true→RetIs (AV.bool true) [] (AV.bool (decide (n = (9:Int)∨n = (10:Int)∨n = (13:Int)∨n = (32:Int))),[]))∧((n == (13:Int)) = false→((n == (32:Int)) = true→RetIs (AV.bool true) [] (AV.bool (decide (n = (9:Int)∨n = (10:Int)∨n = (13:Int)∨n = (32:Int))),[]))∧((n == (32:Int)) = false→RetIs (AV.bool false) [] (AV.bool (decide (n = (9:Int)∨n = (10:Int)∨n = (13:Int)∨n = (32:Int))),[])))))):=by kernel_rfl
abbrev w143c2 (a:Nat) (bs:List UInt8):AV × List (Nat × TypeId):=(AV.int IntKind.i64 (signLen (List.drop a bs)),[])
abbrev w143c1 (n:Int) (a:Nat) (bs:List UInt8):Prop:=(n == (123:Int)) = false→((n == (125:Int)) = true→RetIs (I6 1) [] (w143c2 a bs))∧((n == (125:Int)) = false→((n == (40:Int)) = true→RetIs (I6 1) [] (w143c2 a bs))∧((n == (40:Int)) = false→((n == (41:Int)) = true→RetIs (I6 1) [] (w143c2 a bs))∧((n == (41:Int)) = false→((n == (91:Int)) = true→RetIs (I6 1) [] (w143c2 a bs))∧((n == (91:Int)) = false→((n == (93:Int)) = true→RetIs (I6 1) [] (w143c2 a bs))∧((n == (93:Int)) = false→((n == (44:Int)) = true→RetIs (I6 1) [] (w143c2 a bs))∧((n == (44:Int)) = false→((n == (58:Int)) = true→RetIs (I6 1) [] (w143c2 a bs))∧((n == (58:Int)) = false→((n == (59:Int)) = true→RetIs (I6 1) [] (w143c2 a bs))∧((n == (59:Int)) = false→((n == (61:Int)) = true→RetIs (I6 1) [] (w143c2 a bs))∧((n == (61:Int)) = false→((n == (60:Int)) = true→RetIs (I6 1) [] (w143c2 a bs))∧((n == (60:Int)) = false→((n == (43:Int)) = true→RetIs (I6 1) [] (w143c2 a bs))∧((n == (43:Int)) = false→((n == (45:Int)) = true→RetIs (I6 1) [] (w143c2 a bs))∧((n == (45:Int)) = false→((n == (42:Int)) = true→RetIs (I6 1) [] (w143c2 a bs))∧((n == (42:Int)) = false→((n == (47:Int)) = true→RetIs (I6 1) [] (w143c2 a bs))∧((n == (47:Int)) = false→((n == (94:Int)) = true→RetIs (I6 1) [] (w143c2 a bs))∧((n == (94:Int)) = false→((n == (64:Int)) = true→RetIs (I6 1) [] (w143c2 a bs))∧((n == (64:Int)) = false→RetIs (I6 0) [] (w143c2 a bs)))))))))))))))))
theorem w143 (m:Int) (bs:List UInt8) (a:Nat):(pureW PQ (GQ m) XR (tbl []) (itbl []) ⟨nA,nA⟩ [] 143 [bytesA bs,.int .i64 a] (.int .i64 (signLen (bs.drop a)),[])) =
(((0:Int)≤(↑a:Int)∧(↑a:Int) < (↑(bytesL bs).length:Int))∧∃ (n:Int),takeAt PQ 5 (bytesL bs) (↑a:Int).toNat 0 = some (AV.int IntKind.u8 n)∧(decide (IntKind.i64.wrap ((↑a:Int) + (1:Int)) < (↑(bytesL bs).length:Int)) = true→((0:Int)≤IntKind.i64.wrap ((↑a:Int) + (1:Int))∧IntKind.i64.wrap ((↑a:Int) + (1:Int)) < (↑(bytesL bs).length:Int))∧∃ (n_1:Int),takeAt PQ 5 (bytesL bs) (IntKind.i64.wrap ((↑a:Int) + (1:Int))).toNat 0 = some (AV.int IntKind.u8 n_1)∧((n_1 == (61:Int)) = true→((n == (61:Int)) = true→RetIs (I6 2) [] (w143c2 a bs))∧((n == (61:Int)) = false→((n == (33:Int)) = true→RetIs (I6 2) [] (w143c2 a bs))∧((n == (33:Int)) = false→((n == (60:Int)) = true→RetIs (I6 2) [] (w143c2 a bs))∧((n == (60:Int)) = false→((n == (123:Int)) = true→RetIs (I6 1) [] (w143c2 a bs))∧(w143c1 n a bs)))))∧((n_1 == (61:Int)) = false→((n == (123:Int)) = true→RetIs (I6 1) [] (w143c2 a bs))∧(w143c1 n a bs)))∧(decide (IntKind.i64.wrap ((↑a:Int) + (1:Int)) < (↑(bytesL bs).length:Int)) = false→((n == (123:Int)) = true→RetIs (I6 1) [] (w143c2 a bs))∧(w143c1 n a bs))):=by kernel_rfl
abbrev w141c1 (a:Nat) (bs:List UInt8):AV × List (Nat × TypeId):=(AV.tup [AV.agg [I6 (tokTk (List.drop a bs) a).kind,AV.str (tokTk (List.drop a bs) a).text,I6 (↑(tokTk (List.drop a bs) a).at_:Int)],I6 (tokN (List.drop a bs)),I6 (piece (List.drop a bs)).snd.snd],[])
abbrev w141c7 (a:Nat) (n:Int) (bs:List UInt8):=List.take (IntKind.i64.wrap ((↑a:Int) + n)).toNat (bytesL bs)
abbrev w141c6 (n:Int):=AV.tup [AV.agg [I6 0,AV.str [],I6 0],I6 n,I6 2]
abbrev w141c2 (a:Nat) (n:Int) (bs:List UInt8):Prop:=false = false→(0:Int)≤(↑a:Int)∧(0:Int)≤IntKind.i64.wrap ((↑a:Int) + n)∧((↑a:Int).toNat≤(IntKind.i64.wrap ((↑a:Int) + n)).toNat∧(IntKind.i64.wrap ((↑a:Int) + n)).toNat≤(bytesL bs).length)∧((1:Nat) = (1:Nat)∨bytesL bs = [])∧((1:Nat) = (1:Nat)∨List.drop (↑a:Int).toNat (w141c7 a n bs) = [])∧∃ (l:List UInt8),List.mapM byteOf (List.drop (↑a:Int).toNat (w141c7 a n bs)) = some l∧∃ (b:Bool),CallIs (tbl [(177,s177),(178,s162),(179,s179)] 179 [AV.str l]) (AV.bool b) []∧(b = true→RetIs (w141c6 n) [] (w141c1 a bs))∧(b = false→RetIs (AV.tup [AV.agg [I6 2,AV.str l,I6 (↑a:Int)],I6 n,I6 0]) [] (w141c1 a bs))
abbrev w141c4 (a:Nat) (n:Int):=IntKind.i64.wrap ((↑a:Int) + n) + (1:Int)
abbrev w141c3 (a:Nat) (n:Int):=IntKind.i64.wrap (IntKind.i64.wrap (w141c4 a n) + (0:Int))
abbrev w141c5 (l:List UInt8):=tbl [(177,s177),(178,s162),(179,s179)] 178 [AV.str l]
theorem w141 (m:Int) (bs:List UInt8) (a:Nat):(pureW PQ (GQ m) XR (tbl [(177,s177),(178,s162),(179,s179)]) (itbl []) ⟨nA,nA⟩ [] 141 [bytesA bs,.int .i64 a] (tokR (bs.drop a) a,[])) =
(∃ (n:Int),CallIs (tbl [(177,s177),(178,s162),(179,s179)] 177 [AV.sl 1 (bytesL bs) Own.no,I6 (↑a:Int)]) (I6 n) []∧(decide (IntKind.i64.wrap ((↑a:Int) + n) < (↑(bytesL bs).length:Int)) = true→((0:Int)≤IntKind.i64.wrap ((↑a:Int) + n)∧IntKind.i64.wrap ((↑a:Int) + n) < (↑(bytesL bs).length:Int))∧∃ (n_1:Int),takeAt PQ 5 (bytesL bs) (IntKind.i64.wrap ((↑a:Int) + n)).toNat 0 = some (AV.int IntKind.u8 n_1)∧((n_1 == (46:Int)) = true→∃ (n_2:Int),CallIs (tbl [(177,s177),(178,s162),(179,s179)] 177 [AV.sl 1 (bytesL bs) Own.no,I6 (IntKind.i64.wrap (w141c4 a n))]) (I6 n_2) []∧(decide (n_2 > (0:Int)) = true→(0:Int)≤(↑a:Int)∧(0:Int)≤IntKind.i64.wrap (IntKind.i64.wrap (w141c4 a n) + n_2)∧((↑a:Int).toNat≤(IntKind.i64.wrap (IntKind.i64.wrap (w141c4 a n) + n_2)).toNat∧(IntKind.i64.wrap (IntKind.i64.wrap (w141c4 a n) + n_2)).toNat≤(bytesL bs).length)∧((1:Nat) = (1:Nat)∨bytesL bs = [])∧((1:Nat) = (1:Nat)∨List.drop (↑a:Int).toNat (List.take (IntKind.i64.wrap (IntKind.i64.wrap (w141c4 a n) + n_2)).toNat (bytesL bs)) = [])∧∃ (l:List UInt8),List.mapM byteOf (List.drop (↑a:Int).toNat (List.take (IntKind.i64.wrap (IntKind.i64.wrap (w141c4 a n) + n_2)).toNat (bytesL bs))) = some l∧∃ (n:Int),∃ (n_3:Int),CallIs (w141c5 l) (AV.tup [I6 n,I6 n_3]) []∧RetIs (AV.tup [AV.agg [I6 3,AV.str l,I6 (↑a:Int)],I6 (↑l.length:Int),I6 n_3]) [] (w141c1 a bs))∧(decide (n_2 > (0:Int)) = false→(0:Int)≤(↑a:Int)∧(0:Int)≤IntKind.i64.wrap ((↑a:Int) + n)∧((↑a:Int).toNat≤(IntKind.i64.wrap ((↑a:Int) + n)).toNat∧(IntKind.i64.wrap ((↑a:Int) + n)).toNat≤(bytesL bs).length)∧((1:Nat) = (1:Nat)∨bytesL bs = [])∧((1:Nat) = (1:Nat)∨List.drop (↑a:Int).toNat (w141c7 a n bs) = [])∧∃ (l:List UInt8),List.mapM byteOf (List.drop (↑a:Int).toNat (w141c7 a n bs)) = some l∧∃ (b:Bool),CallIs (tbl [(177,s177),(178,s162),(179,s179)] 179 [AV.str l]) (AV.bool b) []∧(b = true→RetIs (w141c6 n) [] (w141c1 a bs))∧(b = false→RetIs (AV.tup [AV.agg [I6 2,AV.str l,I6 (↑a:Int)],I6 n,I6 0]) [] (w141c1 a bs))))∧((n_1 == (46:Int)) = false→(false = true→(0:Int)≤(↑a:Int)∧(0:Int)≤IntKind.i64.wrap (IntKind.i64.wrap (w141c4 a n) + (0:Int))∧((↑a:Int).toNat≤(w141c3 a n).toNat∧(w141c3 a n).toNat≤(bytesL bs).length)∧((1:Nat) = (1:Nat)∨bytesL bs = [])∧((1:Nat) = (1:Nat)∨List.drop (↑a:Int).toNat (List.take (w141c3 a n).toNat (bytesL bs)) = [])∧∃ (l:List UInt8),List.mapM byteOf (List.drop (↑a:Int).toNat (List.take (w141c3 a n).toNat (bytesL bs))) = some l∧∃ (n:Int),∃ (n_2:Int),CallIs (w141c5 l) (AV.tup [I6 n,I6 n_2]) []∧RetIs (AV.tup [AV.agg [I6 3,AV.str l,I6 (↑a:Int)],I6 (↑l.length:Int),I6 n_2]) [] (w141c1 a bs))∧(w141c2 a n bs)))∧(decide (IntKind.i64.wrap ((↑a:Int) + n) < (↑(bytesL bs).length:Int)) = false→(false = true→(0:Int)≤(↑a:Int)∧(0:Int)≤IntKind.i64.wrap (IntKind.i64.wrap (w141c4 a n) + (0:Int))∧((↑a:Int).toNat≤(w141c3 a n).toNat∧(w141c3 a n).toNat≤(bytesL bs).length)∧((1:Nat) = (1:Nat)∨bytesL bs = [])∧((1:Nat) = (1:Nat)∨List.drop (↑a:Int).toNat (List.take (w141c3 a n).toNat (bytesL bs)) = [])∧∃ (l:List UInt8),List.mapM byteOf (List.drop (↑a:Int).toNat (List.take (w141c3 a n).toNat (bytesL bs))) = some l∧∃ (n:Int),∃ (n_1:Int),CallIs (w141c5 l) (AV.tup [I6 n,I6 n_1]) []∧RetIs (AV.tup [AV.agg [I6 3,AV.str l,I6 (↑a:Int)],I6 (↑l.length:Int),I6 n_1]) [] (w141c1 a bs))∧(w141c2 a n bs))):=by kernel_rfl
abbrev w142c1 (a:Nat) (bs:List UInt8):=List.takeWhile lineB (List.drop (a + (1:Nat)) bs)
abbrev w142c2 (a:Nat) (bs:List UInt8):AV × List (Nat × TypeId):=(AV.tup [AV.agg [I6 (tokTk (List.drop a bs) a).kind,AV.str (tokTk (List.drop a bs) a).text,I6 (↑(tokTk (List.drop a bs) a).at_:Int)],I6 (tokN (List.drop a bs)),I6 (piece (List.drop a bs)).snd.snd],[])
abbrev w142c6:List AV:=[AV.int IntKind.i64 0,AV.str [],AV.int IntKind.i64 0]
abbrev w142c3:St:={ boxes:=[some w142c6],live:=[] }
abbrev w142c4 (a:Nat) (bs:List UInt8):=(↑((1:Nat) + (w142c1 a bs).length):Int)
abbrev w142c5 (bs:List UInt8) (a:Nat):List AV:=[AV.sl 1 (bytesL bs) Own.no,AV.int IntKind.i64 (↑a:Int),AV.ptr 0 0,AV.int IntKind.i64 (w142c4 a bs)]
abbrev w142c7 (bs:List UInt8) (a:Nat) (x:Nat):List AV:=[AV.sl 1 (bytesL bs) Own.no,AV.int IntKind.i64 (↑a:Int),AV.ptr 0 0,AV.int IntKind.i64 (↑((1:Nat) + x):Int)]
abbrev w142c8 (a:Nat) (bs:List UInt8):=AV.tup [AV.agg w142c6,AV.int IntKind.i64 (IntKind.i64.wrap ((w142c4 a bs) + (1:Int))),AV.int IntKind.i64 3]
abbrev w142c9 (a:Nat) (x:Nat) (bs:List UInt8):Prop:=(0:Int)≤IntKind.i64.wrap ((↑a:Int) + (↑((1:Nat) + x):Int))∧IntKind.i64.wrap ((↑a:Int) + (↑((1:Nat) + x):Int)) < (↑(bytesL bs).length:Int)
abbrev w142c10 (a:Nat) (bs:List UInt8):=IntKind.i64.wrap ((↑a:Int) + (w142c4 a bs))
theorem w142 (m:Int) (bs:List UInt8) (a:Nat):(pureW PQ (GQ m) XR (tbl []) (itbl []) (a142 bs a) [] 142 [bytesA bs,.int .i64 a] (tokR (bs.drop a) a,[])) =
(((∃ (y:Nat),ValsAre [AV.sl 1 (bytesL bs) Own.no,I6 (↑a:Int),AV.ptr 0 0,I6 1] [AV.sl 1 (bytesL bs) Own.no,I6 (↑a:Int),AV.ptr 0 0,I6 (↑((1:Nat) + y):Int)]∧StIs w142c3 w142c3∧y≤(w142c1 a bs).length∧True)∧∀ (x:Nat),x≤(w142c1 a bs).length→(decide (IntKind.i64.wrap ((↑a:Int) + (↑((1:Nat) + x):Int)) < (↑(bytesL bs).length:Int)) = true→(w142c9 a x bs)∧∃ (n:Int),takeAt PQ 5 (bytesL bs) (IntKind.i64.wrap ((↑a:Int) + (↑((1:Nat) + x):Int))).toNat 0 = some (AV.int IntKind.u8 n)∧((n != (34:Int)) = true→(w142c9 a x bs)∧∃ (n:Int),takeAt PQ 5 (bytesL bs) (IntKind.i64.wrap ((↑a:Int) + (↑((1:Nat) + x):Int))).toNat 0 = some (AV.int IntKind.u8 n)∧((n != (10:Int)) = true→∃ (y:Nat),ValsAre [AV.sl 1 (bytesL bs) Own.no,I6 (↑a:Int),AV.ptr 0 0,I6 (IntKind.i64.wrap ((↑((1:Nat) + x):Int) + (1:Int)))] [AV.sl 1 (bytesL bs) Own.no,I6 (↑a:Int),AV.ptr 0 0,I6 (↑((1:Nat) + y):Int)]∧StIs w142c3 w142c3∧y≤(w142c1 a bs).length∧bs.length - y < bs.length - x)∧((n != (10:Int)) = false→∃ (_y:Unit),ValsAre (w142c7 bs a x) (w142c5 bs a)∧StIs w142c3 w142c3∧True∧True))∧((n != (34:Int)) = false→∃ (_y:Unit),ValsAre (w142c7 bs a x) (w142c5 bs a)∧StIs w142c3 w142c3∧True∧True))∧(decide (IntKind.i64.wrap ((↑a:Int) + (↑((1:Nat) + x):Int)) < (↑(bytesL bs).length:Int)) = false→∃ (_y:Unit),ValsAre (w142c7 bs a x) (w142c5 bs a)∧StIs w142c3 w142c3∧True∧True))∧∀ (_x:Unit),True→True→(((IntKind.i64.wrap ((↑a:Int) + (w142c4 a bs)) == (↑(bytesL bs).length:Int)) = true→RetIs (AV.tup [AV.agg w142c6,I6 0,I6 80]) [] (w142c2 a bs))∧((IntKind.i64.wrap ((↑a:Int) + (w142c4 a bs)) == (↑(bytesL bs).length:Int)) = false→((0:Int)≤IntKind.i64.wrap ((↑a:Int) + (w142c4 a bs))∧IntKind.i64.wrap ((↑a:Int) + (w142c4 a bs)) < (↑(bytesL bs).length:Int))∧∃ (n:Int),takeAt PQ 5 (bytesL bs) (w142c10 a bs).toNat 0 = some (AV.int IntKind.u8 n)∧((n == (10:Int)) = true→RetIs (AV.tup [AV.agg w142c6,I6 0,I6 80]) [] (w142c2 a bs))∧((n == (10:Int)) = false→∃ (_y:Unit),ValsAre (w142c5 bs a) (w142c5 bs a)∧StIs w142c3 w142c3∧(List.drop (w142c1 a bs).length (List.drop (a + (1:Nat)) bs)).head? = some (34:UInt8)∧True)))∧∀ (_x:Unit),(List.drop (w142c1 a bs).length (List.drop (a + (1:Nat)) bs)).head? = some (34:UInt8)→True→(0:Int)≤IntKind.i64.wrap ((↑a:Int) + (1:Int))∧(0:Int)≤IntKind.i64.wrap ((↑a:Int) + (w142c4 a bs))∧((IntKind.i64.wrap ((↑a:Int) + (1:Int))).toNat≤(w142c10 a bs).toNat∧(w142c10 a bs).toNat≤(bytesL bs).length)∧((1:Nat) = (1:Nat)∨bytesL bs = [])∧((1:Nat) = (1:Nat)∨List.drop (IntKind.i64.wrap ((↑a:Int) + (1:Int))).toNat (List.take (w142c10 a bs).toNat (bytesL bs)) = [])∧∃ (l:List UInt8),List.mapM byteOf (List.drop (IntKind.i64.wrap ((↑a:Int) + (1:Int))).toNat (List.take (w142c10 a bs).toNat (bytesL bs))) = some l∧(decide ((↑l.length:Int) > (64:Int)) = true→RetIs (AV.tup [AV.agg w142c6,I6 (IntKind.i64.wrap ((w142c4 a bs) + (1:Int))),I6 2]) [] (w142c2 a bs))∧(decide ((↑l.length:Int) > (64:Int)) = false→(∃ (y:Nat),ValsAre [I6 (↑a:Int),AV.ptr 0 0,I6 (w142c4 a bs),AV.str l,I6 0] [I6 (↑a:Int),AV.ptr 0 0,I6 (w142c4 a bs),AV.str (w142c1 a bs),I6 (↑y:Int)]∧StIs w142c3 w142c3∧(y≤(w142c1 a bs).length∧(List.take y (w142c1 a bs)).any badB = false)∧True)∧∀ (x:Nat),x≤(w142c1 a bs).length∧(List.take x (w142c1 a bs)).any badB = false→(decide ((↑x:Int) < (↑(w142c1 a bs).length:Int)) = true→(0:Int)≤(↑x:Int)∧∃ (c:UInt8),(w142c1 a bs)[(↑x:Int).toNat]? = some c∧(decide ((↑c.toNat:Int) < (32:Int)) = true→RetIs (w142c8 a bs) [] (w142c2 a bs))∧(decide ((↑c.toNat:Int) < (32:Int)) = false→(0:Int)≤(↑x:Int)∧∃ (c:UInt8),(w142c1 a bs)[(↑x:Int).toNat]? = some c∧(decide ((↑c.toNat:Int) > (126:Int)) = true→RetIs (w142c8 a bs) [] (w142c2 a bs))∧(decide ((↑c.toNat:Int) > (126:Int)) = false→(0:Int)≤(↑x:Int)∧∃ (c:UInt8),(w142c1 a bs)[(↑x:Int).toNat]? = some c∧(((↑c.toNat:Int) == (92:Int)) = true→RetIs (w142c8 a bs) [] (w142c2 a bs))∧(((↑c.toNat:Int) == (92:Int)) = false→∃ (y:Nat),ValsAre [I6 (↑a:Int),AV.ptr 0 0,I6 (w142c4 a bs),AV.str (w142c1 a bs),I6 (IntKind.i64.wrap ((↑x:Int) + (1:Int)))] [I6 (↑a:Int),AV.ptr 0 0,I6 (w142c4 a bs),AV.str (w142c1 a bs),I6 (↑y:Int)]∧StIs w142c3 w142c3∧(y≤(w142c1 a bs).length∧(List.take y (w142c1 a bs)).any badB = false)∧bs.length - y < bs.length - x))))∧(decide ((↑x:Int) < (↑(w142c1 a bs).length:Int)) = false→RetIs (AV.tup [AV.agg [I6 4,AV.str (w142c1 a bs),I6 (↑a:Int)],I6 (IntKind.i64.wrap ((w142c4 a bs) + (1:Int))),I6 0]) [] (w142c2 a bs)))):=by kernel_rfl
abbrev w96c1 (a:Nat) (bs:List UInt8):AV × List (Nat × TypeId):=(AV.tup [AV.agg [I6 (tokTk (List.drop a bs) a).kind,AV.str (tokTk (List.drop a bs) a).text,I6 (↑(tokTk (List.drop a bs) a).at_:Int)],I6 (tokN (List.drop a bs)),I6 (piece (List.drop a bs)).snd.snd],[])
abbrev w96c2 (n:Int) (s:List UInt8) (n_1:Int) (n_2:Int) (n_3:Int):=AV.tup [AV.agg [I6 n,AV.str s,I6 n_1],I6 n_2,I6 n_3]
abbrev w96c3 (bs:List UInt8) (a:Nat):List AV:=[AV.sl 1 (bytesL bs) Own.no,AV.int IntKind.i64 (↑a:Int)]
abbrev w96c4 (a:Nat) (n:Int) (bs:List UInt8):=List.take (IntKind.i64.wrap ((↑a:Int) + n)).toNat (bytesL bs)
theorem w96 (m:Int) (bs:List UInt8) (a:Nat):(pureW PQ (GQ m) XR (tbl [(123,s123t),(140,s140),(141,s141),(142,s142),(143,s143)]) (itbl []) ⟨nA,nA⟩ [] 96 [bytesA bs,.int .i64 a] (tokR (bs.drop a) a,[])) =
(∃ (n:Int),CallIs (tbl [(123,s123t),(140,s140),(141,s141),(142,s142),(143,s143)] 123 (w96c3 bs a)) (I6 n) []∧(decide (n > (24:Int)) = true→RetIs (AV.tup [AV.agg [I6 0,AV.str [],I6 0],I6 n,I6 2]) [] (w96c1 a bs))∧(decide (n > (24:Int)) = false→(decide (n > (0:Int)) = true→(0:Int)≤(↑a:Int)∧(0:Int)≤IntKind.i64.wrap ((↑a:Int) + n)∧((↑a:Int).toNat≤(IntKind.i64.wrap ((↑a:Int) + n)).toNat∧(IntKind.i64.wrap ((↑a:Int) + n)).toNat≤(bytesL bs).length)∧((1:Nat) = (1:Nat)∨bytesL bs = [])∧((1:Nat) = (1:Nat)∨List.drop (↑a:Int).toNat (w96c4 a n bs) = [])∧∃ (l:List UInt8),List.mapM byteOf (List.drop (↑a:Int).toNat (w96c4 a n bs)) = some l∧RetIs (AV.tup [AV.agg [I6 1,AV.str l,I6 (↑a:Int)],I6 n,I6 0]) [] (w96c1 a bs))∧(decide (n > (0:Int)) = false→((0:Int)≤(↑a:Int)∧(↑a:Int) < (↑(bytesL bs).length:Int))∧∃ (n:Int),takeAt PQ 5 (bytesL bs) (↑a:Int).toNat 0 = some (AV.int IntKind.u8 n)∧∃ (b:Bool),CallIs (some (AV.bool (decide ((48:Int)≤n∧n≤(57:Int))),[])) (AV.bool b) []∧(b = true→∃ (n:Int),∃ (s:List UInt8),∃ (n_1:Int),∃ (n_2:Int),∃ (n_3:Int),CallIs (tbl [(123,s123t),(140,s140),(141,s141),(142,s142),(143,s143)] 141 (w96c3 bs a)) (w96c2 n s n_1 n_2 n_3) []∧RetIs (w96c2 n s n_1 n_2 n_3) [] (w96c1 a bs))∧(b = false→((0:Int)≤(↑a:Int)∧(↑a:Int) < (↑(bytesL bs).length:Int))∧∃ (n:Int),takeAt PQ 5 (bytesL bs) (↑a:Int).toNat 0 = some (AV.int IntKind.u8 n)∧((n == (34:Int)) = true→∃ (n:Int),∃ (s:List UInt8),∃ (n_1:Int),∃ (n_2:Int),∃ (n_3:Int),CallIs (tbl [(123,s123t),(140,s140),(141,s141),(142,s142),(143,s143)] 142 (w96c3 bs a)) (w96c2 n s n_1 n_2 n_3) []∧RetIs (w96c2 n s n_1 n_2 n_3) [] (w96c1 a bs))∧((n == (34:Int)) = false→∃ (n:Int),CallIs (tbl [(123,s123t),(140,s140),(141,s141),(142,s142),(143,s143)] 143 (w96c3 bs a)) (I6 n) []∧((n == (0:Int)) = true→RetIs (AV.tup [AV.agg [I6 0,AV.str [],I6 0],I6 0,I6 80]) [] (w96c1 a bs))∧((n == (0:Int)) = false→(0:Int)≤(↑a:Int)∧(0:Int)≤IntKind.i64.wrap ((↑a:Int) + n)∧((↑a:Int).toNat≤(IntKind.i64.wrap ((↑a:Int) + n)).toNat∧(IntKind.i64.wrap ((↑a:Int) + n)).toNat≤(bytesL bs).length)∧((1:Nat) = (1:Nat)∨bytesL bs = [])∧((1:Nat) = (1:Nat)∨List.drop (↑a:Int).toNat (w96c4 a n bs) = [])∧∃ (l:List UInt8),List.mapM byteOf (List.drop (↑a:Int).toNat (w96c4 a n bs)) = some l∧RetIs (AV.tup [AV.agg [I6 5,AV.str l,I6 (↑a:Int)],I6 n,I6 0]) [] (w96c1 a bs))))))):=by kernel_rfl
abbrev w47c15 (x:X47):=List.map pbX (List.take 32 x.b)
abbrev w47c6 (bs:List UInt8) (y:X47):List AV:=[AV.sl 1 (bytesL bs) Own.no,AV.sl 3 (List.map tokA y.l) (Own.tok 0),AV.sl 2 (List.map pbX (List.take 32 y.b)) (Own.tok 1),I6 (↑y.p:Int),AV.ptr 0 0,I6 (tokN (List.drop y.p bs)),I6 (piece (List.drop y.p bs)).snd.snd]
abbrev w47c5 (y:X47) (bs:List UInt8):St:={ boxes:=[some [AV.int IntKind.i64 (tokTk (List.drop y.p bs) y.p).kind,AV.str (tokTk (List.drop y.p bs) y.p).text,AV.int IntKind.i64 (↑(tokTk (List.drop y.p bs) y.p).at_:Int)]],live:=[(y.l.length,99),((List.take 32 y.b).length,86)] }
abbrev w47c1 (x:X47) (bs:List UInt8) (n_3:Int) (n_2:Int) (n:Int) (s:List UInt8) (n_1:Int):Prop:=decide ((↑(w47c15 x).length:Int) < (32:Int)) = true→((2:Nat) = (2:Nat)∨List.map pbX (List.take 32 x.b) = [])∧((w47c15 x).length + (1:Nat)) * (17:Nat)≤(70368744177664:Nat)∧(List.take 32 x.b).length = (w47c15 x).length∧∃ (y:X47),ValsAre [AV.sl 1 (bytesL bs) Own.no,AV.sl 3 (List.map tokA x.l) (Own.tok 0),AV.sl 2 (List.map pbX (List.take 32 x.b) ++ [AV.agg [I6 (↑x.p:Int),I6 n_3]]) (Own.tok 1),I6 (↑x.p:Int),AV.ptr 0 0,I6 n_2,I6 n_3] (w47c6 bs y)∧StIs { boxes:=[some [I6 n,AV.str s,I6 n_1]],live:=[(x.l.length,99),((w47c15 x).length + (1:Nat),86)] } (w47c5 y bs)∧Inv11 bs y∧I6 (↑x.p:Int) = I6 (↑y.p:Int)
abbrev w47c12 (x_1:X47) (bs:List UInt8):List AV:=[AV.int IntKind.i64 (tokTk (List.drop x_1.p bs) x_1.p).kind,AV.str (tokTk (List.drop x_1.p bs) x_1.p).text,AV.int IntKind.i64 (↑(tokTk (List.drop x_1.p bs) x_1.p).at_:Int)]
abbrev w47c14 (bs:List UInt8) (y:X47):List AV:=[AV.sl 1 (bytesL bs) Own.no,AV.sl 3 (List.map tokA y.l) (Own.tok 0),AV.sl 2 (List.map pbX (List.take 32 y.b)) (Own.tok 1),AV.int IntKind.i64 (↑y.p:Int),AV.int IntKind.i64 (tokN (List.drop y.p bs))]
abbrev w47c2 (x_1:X47) (bs:List UInt8):Prop:=(((piece (List.drop x_1.p bs)).snd.snd == (0:Int)) = true→((3:Nat) = (3:Nat)∨List.map tokA x_1.l = [])∧((List.map tokA x_1.l).length + (1:Nat)) * (33:Nat)≤(70368744177664:Nat)∧x_1.l.length = (List.map tokA x_1.l).length∧∃ (y:X47),ValsAre [AV.sl 1 (bytesL bs) Own.no,AV.sl 3 (List.map tokA x_1.l ++ [AV.agg (w47c12 x_1 bs)]) (Own.tok 0),AV.sl 2 (List.map pbX (List.take 32 x_1.b)) (Own.tok 1),I6 (↑x_1.p:Int),I6 (tokN (List.drop x_1.p bs))] (w47c14 bs y)∧StIs { boxes:=[some (w47c12 x_1 bs)],live:=[((List.map tokA x_1.l).length + (1:Nat),99),((List.take 32 x_1.b).length,86)] } (w47c5 y bs)∧Inv47c bs y∧I6 (↑x_1.p:Int) = I6 (↑y.p:Int))∧(((piece (List.drop x_1.p bs)).snd.snd == (0:Int)) = false→∃ (y:X47),ValsAre [AV.sl 1 (bytesL bs) Own.no,AV.sl 3 (List.map tokA x_1.l) (Own.tok 0),AV.sl 2 (List.map pbX (List.take 32 x_1.b)) (Own.tok 1),I6 (↑x_1.p:Int),I6 (tokN (List.drop x_1.p bs))] (w47c14 bs y)∧StIs { boxes:=[some (w47c12 x_1 bs)],live:=[(x_1.l.length,99),((List.take 32 x_1.b).length,86)] } (w47c5 y bs)∧Inv47c bs y∧I6 (↑x_1.p:Int) = I6 (↑y.p:Int))
abbrev w47c9 (bs:List UInt8) (x:X47) (n_2:Int) (n_3:Int):List AV:=[AV.sl 1 (bytesL bs) Own.no,AV.sl 3 (List.map tokA x.l) (Own.tok 0),AV.sl 2 (w47c15 x) (Own.tok 1),I6 (↑x.p:Int),AV.ptr 0 0,I6 n_2,I6 n_3]
abbrev w47c11 (n:Int) (s:List UInt8) (n_1:Int) (x:X47):St:={ boxes:=[some [AV.int IntKind.i64 n,AV.str s,AV.int IntKind.i64 n_1]],live:=[(x.l.length,99),((List.take 32 x.b).length,86)] }
abbrev w47c3 (x:X47) (bs:List UInt8) (n_2:Int) (n_3:Int) (n:Int) (s:List UInt8) (n_1:Int):Prop:=decide ((↑(w47c15 x).length:Int) < (32:Int)) = false→∃ (y:X47),ValsAre (w47c9 bs x n_2 n_3) (w47c6 bs y)∧StIs (w47c11 n s n_1 x) (w47c5 y bs)∧Inv11 bs y∧AV.int IntKind.i64 (↑x.p:Int) = AV.int IntKind.i64 (↑y.p:Int)
abbrev w47c7 (bs:List UInt8) (y:X47):List AV:=[AV.sl 1 (bytesL bs) Own.no,AV.sl 3 (List.map tokA y.l) (Own.tok 0),AV.sl 2 (List.map pbX (List.take 32 y.b)) (Own.tok 1),AV.int IntKind.i64 (↑y.p:Int),AV.bool y.adj]
abbrev w47c16 (x_2:X47):St:={ boxes:=[],live:=[(x_2.l.length,99),((List.take 32 x_2.b).length,86)] }
abbrev w47c13 (y:X47):St:={ boxes:=[],live:=[(y.l.length,99),((List.take 32 y.b).length,86)] }
abbrev w47c17 (bs:List UInt8) (x_2:X47) (n:Int):List AV:=[AV.sl 1 (bytesL bs) Own.no,AV.sl 3 (List.map tokA x_2.l) (Own.tok 0),AV.sl 2 (List.map pbX (List.take 32 x_2.b)) (Own.tok 1),AV.int IntKind.i64 n,AV.bool false]
abbrev w47c4 (x_2:X47) (bs:List UInt8) (n:Int) (x:X47):Prop:=(tokN (List.drop x_2.p bs) == (0:Int)) = true→((n == IntKind.i64.wrap ((↑x_2.p:Int) + max (tokN (List.drop x_2.p bs)) (1:Int))) = true→∃ (y:X47),ValsAre [AV.sl 1 (bytesL bs) Own.no,AV.sl 3 (List.map tokA x_2.l) (Own.tok 0),AV.sl 2 (List.map pbX (List.take 32 x_2.b)) (Own.tok 1),AV.int IntKind.i64 n,AV.bool true] (w47c7 bs y)∧StIs (w47c16 x_2) (w47c13 y)∧Inv47 bs y∧bs.length - y.p < bs.length - x.p)∧((n == IntKind.i64.wrap ((↑x_2.p:Int) + max (tokN (List.drop x_2.p bs)) (1:Int))) = false→∃ (y:X47),ValsAre (w47c17 bs x_2 n) (w47c7 bs y)∧StIs (w47c16 x_2) (w47c13 y)∧Inv47 bs y∧bs.length - y.p < bs.length - x.p)
abbrev w47c19 (bs:List UInt8):List AV:=[AV.sl 3 (List.map tokA (toksX bs)) Own.no,AV.sl 2 (List.map pbX (probsL bs)) Own.no,AV.int IntKind.i64 0]
abbrev w47c8 (x:X47) (bs:List UInt8):Prop:=decide ((↑x.p:Int) < (↑(bytesL bs).length:Int)) = false→((3:Nat) = (3:Nat)∨List.map tokA x.l = [])∧((List.map tokA x.l).length + (1:Nat)) * (33:Nat)≤(70368744177664:Nat)∧x.l.length = (List.map tokA x.l).length∧RetLax (AV.tup [AV.sl 3 (List.map tokA x.l ++ [AV.agg [I6 6,AV.str [],I6 (↑(bytesL bs).length:Int)]]) (Own.tok 0),AV.sl 2 (w47c15 x) (Own.tok 1),I6 0]) (if bs.length≤(16384:Nat) then AV.tup (w47c19 bs) else AV.tup [AV.sl 3 [] Own.no,AV.sl 2 [] Own.no,I6 2],[])
abbrev w47c10 (x_2:X47) (bs:List UInt8) (n:Int) (x:X47):Prop:=(tokN (List.drop x_2.p bs) == (0:Int)) = false→∃ (y:X47),ValsAre (w47c17 bs x_2 n) (w47c7 bs y)∧StIs (w47c16 x_2) (w47c13 y)∧Inv47 bs y∧bs.length - y.p < bs.length - x.p
abbrev w47c18 (bs:List UInt8) (x_2:X47):=tbl [(95,s95),(96,s96)] 95 [AV.sl 1 (bytesL bs) Own.no,AV.int IntKind.i64 (IntKind.i64.wrap ((↑x_2.p:Int) + max (tokN (List.drop x_2.p bs)) (1:Int)))]
theorem w47 (m:Int) (bs:List UInt8):(laxW PQ (GQ m) XR (tbl [(95,s95),(96,s96)]) (itbl []) (a47 bs) [] 47 [bytesA bs] (r12 bs)) =
((decide ((↑(bytesL bs).length:Int) > (16384:Int)) = true→RetLax (AV.tup [AV.sl 0 [] Own.nil,AV.sl 0 [] Own.nil,I6 2]) (if bs.length≤(16384:Nat) then AV.tup (w47c19 bs) else AV.tup [AV.sl 3 [] Own.no,AV.sl 2 [] Own.no,I6 2],[]))∧(decide ((↑(bytesL bs).length:Int) > (16384:Int)) = false→∃ (n:Int),CallIs (tbl [(95,s95),(96,s96)] 95 [AV.sl 1 (bytesL bs) Own.no,I6 0]) (I6 n) []∧(∃ (y:X47),ValsAre [AV.sl 1 (bytesL bs) Own.no,AV.sl 3 [] (Own.tok 0),AV.sl 2 [] (Own.tok 1),I6 n,AV.bool false] (w47c7 bs y)∧StIs { boxes:=[],live:=[(0,99),(0,86)] } (w47c13 y)∧Inv47 bs y∧True)∧∀ (x:X47),Inv47 bs x→(x.adj = true→(decide ((↑x.p:Int) < (↑(bytesL bs).length:Int)) = true→∃ (n:Int),∃ (s:List UInt8),∃ (n_1:Int),∃ (n_2:Int),∃ (n_3:Int),CallIs (tbl [(95,s95),(96,s96)] 96 [AV.sl 1 (bytesL bs) Own.no,I6 (↑x.p:Int)]) (AV.tup [AV.agg [I6 n,AV.str s,I6 n_1],I6 n_2,I6 n_3]) []∧(((n_3 != (0:Int)) = true→(decide (n_2 > (0:Int)) = true→(w47c1 x bs n_3 n_2 n s n_1)∧(w47c3 x bs n_2 n_3 n s n_1))∧(decide (n_2 > (0:Int)) = false→∃ (y:X47),ValsAre (w47c9 bs x n_2 n_3) (w47c6 bs y)∧StIs (w47c11 n s n_1 x) (w47c5 y bs)∧Inv11 bs y∧I6 (↑x.p:Int) = I6 (↑y.p:Int)))∧((n_3 != (0:Int)) = false→∃ (y:X47),ValsAre (w47c9 bs x n_2 n_3) (w47c6 bs y)∧StIs (w47c11 n s n_1 x) (w47c5 y bs)∧Inv11 bs y∧I6 (↑x.p:Int) = I6 (↑y.p:Int)))∧∀ (x_1:X47),Inv11 bs x_1→I6 (↑x.p:Int) = I6 (↑x_1.p:Int)→(w47c2 x_1 bs)∧∀ (x_2:X47),Inv47c bs x_2→I6 (↑x_1.p:Int) = I6 (↑x_2.p:Int)→∃ (n:Int),CallIs (w47c18 bs x_2) (I6 n) []∧(w47c4 x_2 bs n x)∧(w47c10 x_2 bs n x))∧(w47c8 x bs))∧(x.adj = false→(decide ((↑x.p:Int) < (↑(bytesL bs).length:Int)) = true→∃ (n:Int),∃ (s:List UInt8),∃ (n_1:Int),∃ (n_2:Int),∃ (n_3:Int),CallIs (tbl [(95,s95),(96,s96)] 96 [AV.sl 1 (bytesL bs) Own.no,I6 (↑x.p:Int)]) (AV.tup [AV.agg [I6 n,AV.str s,I6 n_1],I6 n_2,I6 n_3]) []∧(((n_3 != (0:Int)) = true→(decide (n_2 > (0:Int)) = true→(w47c1 x bs n_3 n_2 n s n_1)∧(w47c3 x bs n_2 n_3 n s n_1))∧(decide (n_2 > (0:Int)) = false→(w47c1 x bs n_3 n_2 n s n_1)∧(w47c3 x bs n_2 n_3 n s n_1)))∧((n_3 != (0:Int)) = false→∃ (y:X47),ValsAre (w47c9 bs x n_2 n_3) (w47c6 bs y)∧StIs (w47c11 n s n_1 x) (w47c5 y bs)∧Inv11 bs y∧I6 (↑x.p:Int) = I6 (↑y.p:Int)))∧∀ (x_1:X47),Inv11 bs x_1→I6 (↑x.p:Int) = I6 (↑x_1.p:Int)→(w47c2 x_1 bs)∧∀ (x_2:X47),Inv47c bs x_2→I6 (↑x_1.p:Int) = I6 (↑x_2.p:Int)→∃ (n:Int),CallIs (w47c18 bs x_2) (I6 n) []∧(w47c4 x_2 bs n x)∧(w47c10 x_2 bs n x))∧(w47c8 x bs)))):=by kernel_rfl
end Go.Abs.Lx
namespace Go.Abs.Lx
open Go.Proofs L8
theorem p139 (m n:Int):PureOk PQ (GQ m) XR (tbl []) (itbl []) ⟨nA,nA⟩ [] 139 [.int .u8 n] (.bool (decide (n = 9∨n = 10∨n = 13∨n = 32)),[]):=by
 constructor
 rw [w139]
 simp only [retIs_iff,Prod.mk.injEq,AV.bool.injEq,and_true,beq_iff_eq,beq_eq_false_iff_ne,ne_eq]
 repeat' (refine And.intro (fun h=>?_) (fun h=>?_))
 all_goals simp [*]
theorem p177 (m:Int) (bs:List UInt8) (a:Nat) (ha:a≤bs.length) (hl:bs.length≤1000000):PureOk PQ (GQ m) XR (tbl [(140,s140)]) (itbl []) (a177 bs a) [] 177 [bytesA bs,.int .i64 a] (.int .i64 ((bs.drop a).takeWhile digitB).length,[]):=by
 constructor
 rw [w177]; unfold I6
 have t44:∀ n:Int,tbl [(140,s140)] 140 [.int .u8 n] = some (.bool (decide (48≤n∧n≤57)),[]):=fun n=>by rw [tbl_hit]; rfl
 have htw:=tw_le (p:=digitB) (bs.drop a)
 rw [List.length_drop] at htw
 simp only [callIs_iff,valsAre_iff,stIs_iff,retIs_iff,take_u8_iff agg5 size5,Option.some.injEq,Prod.mk.injEq,AV.bool.injEq,AV.int.injEq,List.cons.injEq,and_true,true_and,decide_eq_true_eq,decide_eq_false_iff_not,bytesL_length]
 refine ⟨⟨0,rfl,by omega⟩,fun x hx=>?_⟩
 rw [wrap64_in (n:=(a:Int) + x) (by omega) (by omega),wrap64_in (n:=(x:Int) + 1) (by omega) (by omega),show ((a:Int) + x).toNat = a + x by omega]
 refine ⟨fun hlt=>⟨⟨by omega,by omega⟩,_,⟨by omega,rfl⟩,_,rfl,fun hb=>?_,fun hb=>?_⟩,fun hge=>?_⟩
 ·have hd:digitB (bs.getD (a + x) 0) = true:=by rw [digitB_iff]; have:=of_decide_eq_true hb; omega
  exact ⟨x + 1,by omega,tw_next hx (by rw [List.length_drop]; omega) (by rw [getD_drop']; exact hd),by omega⟩
 ·have hd:digitB (bs.getD (a + x) 0) = false:=by
   cases h:digitB (bs.getD (a + x) 0) with
   | false=>rfl
   | true=>rw [digitB_iff] at h; have:=of_decide_eq_false hb; omega
  have:=tw_stop (p:=digitB) (l:=bs.drop a) (k:=x) hx (fun _=>by rw [getD_drop']; exact hd)
  omega
 ·have:=tw_stop (p:=digitB) (l:=bs.drop a) (k:=x) hx (fun h=>by rw [List.length_drop] at h; omega)
  omega
theorem p179 (m:Int) (l:List UInt8) (hl:l.length≤1000000) (hd:l.all digitB = true):PureOk PQ (GQ m) XR (tbl []) (itbl []) (a179 l) [] 179 [.str l] (.bool (decide (2 ^ 60 < valX l)),[]):=by
 constructor
 rw [w179]; unfold I6
 simp only [valsAre_iff,stIs_iff,retIs_iff,Prod.mk.injEq,AV.bool.injEq,AV.int.injEq,List.cons.injEq,and_true,true_and,decide_eq_true_eq,decide_eq_false_iff_not,Int.toNat_natCast,gt_iff_lt]
 refine ⟨⟨0,⟨rfl,rfl⟩,by omega,by simp [valX]⟩,fun x hx=>?_⟩
 obtain ⟨hx1,hx2⟩:=hx
 have hmono:valX (l.take x)≤valX l:=by
  have e:l = l.take x ++ l.drop x:=(List.take_append_drop _ _).symm
  conv=>rhs; rw [e]
  rw [valL_eq,valL_eq,valF_append]
  exact valF_ge _ _
 refine ⟨fun hlt=>⟨fun hg=>?_,fun hg=>?_⟩,fun hge=>?_⟩
 ·have hlt':x < l.length:=by omega
  have h1:valX (l.take (x + 1)) = 10 * valX (l.take x) + (l[x].toNat - 48):=by
   rw [List.take_succ_eq_append_getElem hlt',valL_snoc]
  have hmono1:valX (l.take (x + 1))≤valX l:=by
   have e:l = l.take (x + 1) ++ l.drop (x + 1):=(List.take_append_drop _ _).symm
   conv=>rhs; rw [e]
   rw [valL_eq,valL_eq,valF_append]
   exact valF_ge _ _
  exact (decide_eq_true (by omega)).symm
 ·have hlt':x < l.length:=by omega
  have hdx:48≤l[x].toNat∧l[x].toNat≤57:=by
   rw [List.all_eq_true] at hd
   exact digitB_iff.1 (hd _ (List.getElem_mem hlt'))
  have h1:valX (l.take (x + 1)) = 10 * valX (l.take x) + (l[x].toNat - 48):=by
   rw [List.take_succ_eq_append_getElem hlt',valL_snoc]
  refine ⟨by omega,l[x],List.getElem?_eq_getElem hlt',?_⟩
  rw [wrap8_in (by omega) (by omega),wrap64_in (n:=10 * ((valX (l.take x):Nat):Int)) (by omega) (by omega),wrap64_in (n:=((l[x].toNat:Nat):Int) - 48) (by omega) (by omega),wrap64_in (n:=(x:Int) + 1) (by omega) (by omega),wrap64_in (by omega) (by omega)]
  exact ⟨x + 1,⟨by rw [h1]; omega,by omega⟩,⟨by omega,by rw [h1]; omega⟩,by omega⟩
 ·have hx3:x = l.length:=by omega
  subst hx3
  rw [List.take_length]
  by_cases h:2 ^ 60 < valX l
  ·rw [decide_eq_true h]; exact ⟨fun _=>rfl,fun h'=>absurd h' (by omega)⟩
  ·rw [decide_eq_false h]; exact ⟨fun h'=>absurd h' (by omega),fun _=>rfl⟩
theorem blankN (c:UInt8):decide ((c.toNat:Int) = 9∨(c.toNat:Int) = 10∨(c.toNat:Int) = 13∨(c.toNat:Int) = 32) = blankB c:=by
 have e:∀ n:Nat,n < 256→((c.toNat:Int) = n ↔ c = UInt8.ofNat n):=fun n hn=>by
  rw [← UInt8.toNat_inj,UInt8.toNat_ofNat',Nat.mod_eq_of_lt (by omega)]; omega
 have e9:=e 9 (by omega)
 have e10:=e 10 (by omega)
 have e13:=e 13 (by omega)
 have e32:=e 32 (by omega)
 simp only [blankB]
 by_cases h1:c = 9
 ·subst h1; rfl
 ·by_cases h2:c = 10
  ·subst h2; rfl
  ·by_cases h3:c = 13
   ·subst h3; rfl
   ·by_cases h4:c = 32
    ·subst h4; rfl
    ·have:¬ ((c.toNat:Int) = 9∨(c.toNat:Int) = 10∨(c.toNat:Int) = 13∨(c.toNat:Int) = 32):=by
      rintro (h | h | h | h)
      ·exact h1 (e9.1 h)
      ·exact h2 (e10.1 h)
      ·exact h3 (e13.1 h)
      ·exact h4 (e32.1 h)
     rw [decide_eq_false this]
     simp [h1,h2,h3,h4]
theorem skip_step {cm:Bool} {l:List UInt8} (h:0 < l.length) (hs:((cm && l.getD 0 0 != 10) || blankB (l.getD 0 0) || l.getD 0 0 == 35) = true):skipL cm l = 1 + skipL (l.getD 0 0 != 10 && (cm || l.getD 0 0 == 35)) (l.drop 1):=by
 cases l with
 | nil=>simp at h
 | cons c t =>
  have hs':((cm && c != 10) || blankB c || c == 35) = true:=hs
  simp only [skipL,hs',if_true]
  rfl
theorem skip_stop {cm:Bool} {l:List UInt8} (hs:0 < l.length→((cm && l.getD 0 0 != 10) || blankB (l.getD 0 0) || l.getD 0 0 == 35) = false):skipL cm l = 0:=by
 cases l with
 | nil=>simp [skipL]
 | cons c t =>
  have hs':((cm && c != 10) || blankB c || c == 35) = false:=hs (by simp)
  simp only [skipL,hs']
  rfl
theorem p95 (m:Int) (bs:List UInt8) (a:Nat) (ha:a≤bs.length) (hl:bs.length≤1000000):PureOk PQ (GQ m) XR (tbl [(139,s139)]) (itbl []) (a95 bs a) [] 95 [bytesA bs,.int .i64 a] (.int .i64 (a + skipL false (bs.drop a):Nat),[]):=by
 constructor
 rw [w95]; unfold w95c7 w95c3 w95c2 w95c4 w95c1 w95c6 w95c5 w95c8 I6
 have t43:∀ n:Int,tbl [(139,s139)] 139 [.int .u8 n] = some (.bool (decide (n = 9∨n = 10∨n = 13∨n = 32)),[]):=fun n=>by rw [tbl_hit]; rfl
 simp only [callIs_iff,valsAre_iff,stIs_iff,retIs_iff,take_u8_iff agg5 size5,Option.some.injEq,Prod.mk.injEq,AV.bool.injEq,AV.int.injEq,List.cons.injEq,and_true,true_and,decide_eq_true_eq,decide_eq_false_iff_not,bytesL_length,Int.toNat_natCast,exists_eq_left',and_assoc,exists_and_left,beq_iff_eq,bne_iff_ne,beq_eq_false_iff_ne,bne_eq_false_iff_eq,ne_eq]
 refine ⟨⟨⟨a,false⟩,rfl,rfl,ha,rfl⟩,fun x hx=>?_⟩
 obtain ⟨hx1,hx2⟩:=hx
 have hgd:(bs.drop x.p).getD 0 0 = bs.getD x.p 0:=by rw [getD_drop',Nat.add_zero]
 have c10:(bs.getD x.p 0 = 10) ↔ ((bs.getD x.p 0).toNat:Int) = 10:=by
  rw [← UInt8.toNat_inj]; show (bs.getD x.p 0).toNat = 10 ↔ _; omega
 have c35:(bs.getD x.p 0 = 35) ↔ ((bs.getD x.p 0).toNat:Int) = 35:=by
  rw [← UInt8.toNat_inj]; show (bs.getD x.p 0).toNat = 35 ↔ _; omega
 have hbl:=blankN (bs.getD x.p 0)
 have hw:x.p < bs.length→IntKind.i64.wrap ((x.p:Int) + 1) = ((x.p + 1:Nat):Int):=fun h=>by rw [wrap64_in (by omega) (by omega)]; omega
 have step:∀ b:Bool,(x.p:Int) < bs.length→(x.cm = true∨(((bs.getD x.p 0).toNat:Int) = 9∨((bs.getD x.p 0).toNat:Int) = 10∨((bs.getD x.p 0).toNat:Int) = 13∨((bs.getD x.p 0).toNat:Int) = 32)∨((bs.getD x.p 0).toNat:Int) = 35)→(b = true ↔ ¬ ((bs.getD x.p 0).toNat:Int) = 10∧(x.cm = true∨((bs.getD x.p 0).toNat:Int) = 35)) →
   ∃ y:X95,IntKind.i64.wrap ((x.p:Int) + 1) = y.p∧b = y.cm∧y.p≤bs.length∧y.p + skipL y.cm (bs.drop y.p) = a + skipL false (bs.drop a)∧bs.length - y.p < bs.length - x.p:=fun b hlt hc hb=>by
  have hlt':x.p < bs.length:=by omega
  refine ⟨⟨x.p + 1,b⟩,hw hlt',rfl,by simp only; omega,?_,by simp only; omega⟩
  have hs:=skip_step (cm:=x.cm) (l:=bs.drop x.p) (by rw [List.length_drop]; omega) (by
   rw [hgd,← hbl]
   simp only [Bool.or_eq_true,Bool.and_eq_true,bne_iff_ne,ne_eq,decide_eq_true_eq,beq_iff_eq,c10,c35]
   rcases hc with h | h | h
   ·by_cases h10:((bs.getD x.p 0).toNat:Int) = 10
    ·exact .inl (.inr (.inr (.inl h10)))
    ·exact .inl (.inl ⟨h,h10⟩)
   ·exact .inl (.inr h)
   ·exact .inr h)
  rw [hgd,List.drop_drop] at hs
  have hbe:b = (bs.getD x.p 0 != 10 && (x.cm || bs.getD x.p 0 == 35)):=by
   rw [Bool.eq_iff_iff,hb]
   simp only [Bool.or_eq_true,Bool.and_eq_true,bne_iff_ne,ne_eq,beq_iff_eq,c10,c35]
  simp only
  rw [hbe,← hx2,hs]
  omega
 have stop:¬ ((x.p:Int) < bs.length∧(x.cm = true∨(((bs.getD x.p 0).toNat:Int) = 9∨((bs.getD x.p 0).toNat:Int) = 10∨((bs.getD x.p 0).toNat:Int) = 13∨((bs.getD x.p 0).toNat:Int) = 32)∨((bs.getD x.p 0).toNat:Int) = 35))→(x.p:Int) = ((a + skipL false (bs.drop a):Nat):Int):=fun h=>by
  have hs:=skip_stop (cm:=x.cm) (l:=bs.drop x.p) (fun hl'=>by
   rw [hgd,← hbl]
   rw [List.length_drop] at hl'
   cases hcond:((x.cm && bs.getD x.p 0 != 10) || decide (((bs.getD x.p 0).toNat:Int) = 9∨((bs.getD x.p 0).toNat:Int) = 10∨((bs.getD x.p 0).toNat:Int) = 13∨((bs.getD x.p 0).toNat:Int) = 32) || bs.getD x.p 0 == 35) with
   | false=>rfl
   | true =>
    exfalso
    apply h
    simp only [Bool.or_eq_true,Bool.and_eq_true,bne_iff_ne,ne_eq,decide_eq_true_eq,beq_iff_eq,c35] at hcond
    refine ⟨by omega,?_⟩
    rcases hcond with (h | h) | h
    ·exact .inl h.1
    ·exact .inr (.inl h)
    ·exact .inr (.inr h))
  rw [hs] at hx2
  omega
 generalize ((bs.getD x.p 0).toNat:Int) = c at *
 refine ⟨fun hcm=>?_,fun hcm=>?_⟩
 ·simp only [hcm,true_or,and_true,forall_const] at step stop
  repeat' (first | refine And.intro ?_ ?_ | intro _)
  all_goals first | omega | exact step true (by omega) (by simp; omega) | exact step false (by omega) (by simp; omega) | exact stop (by omega)
 ·simp only [hcm,Bool.false_eq_true,false_or] at step stop
  repeat' (first | refine And.intro ?_ ?_ | intro _)
  all_goals first | omega | exact step true (by omega) (by omega) (by simp; omega) | exact step false (by omega) (by omega) (by simp; omega) | exact stop (by omega)
end Go.Abs.Lx
namespace Go.Abs.Lx
open Go.Proofs L8
def tab2Ok (n:Nat):Bool:=
 let c:=UInt8.ofNat n
 (eqSgB c == decide ((n:Int) = 61∨(n:Int) = 33∨(n:Int) = 60)) && (signB c == decide ((n:Int) ∈ ([123,125,40,41,91,93,44,58,59,61,60,43,45,42,47,94,64]:List Int)))
theorem tab2_ok:(List.range 256).all tab2Ok = true:=by decide +kernel
theorem eqN (c:UInt8):eqSgB c = decide ((c.toNat:Int) = 61∨(c.toNat:Int) = 33∨(c.toNat:Int) = 60):=by
 have h:=List.all_eq_true.1 tab2_ok c.toNat (List.mem_range.2 c.toNat_lt)
 simp only [tab2Ok,Bool.and_eq_true,beq_iff_eq,UInt8.ofNat_toNat] at h
 exact h.1
theorem signN (c:UInt8):signB c = decide ((c.toNat:Int) ∈ ([123,125,40,41,91,93,44,58,59,61,60,43,45,42,47,94,64]:List Int)):=by
 have h:=List.all_eq_true.1 tab2_ok c.toNat (List.mem_range.2 c.toNat_lt)
 simp only [tab2Ok,Bool.and_eq_true,beq_iff_eq,UInt8.ofNat_toNat] at h
 exact h.2
theorem p143 (m:Int) (bs:List UInt8) (a:Nat) (ha:a < bs.length) (hl:bs.length≤1000000):PureOk PQ (GQ m) XR (tbl []) (itbl []) ⟨nA,nA⟩ [] 143 [bytesA bs,.int .i64 a] (.int .i64 (signLen (bs.drop a)),[]):=by
 constructor
 rw [w143]; unfold w143c1 w143c2 I6
 have hct:bs.drop a = bs.getD a 0 :: bs.drop (a + 1):=by
  rw [List.drop_eq_getElem_cons ha]; simp [ha]
 have hh:(bs.drop (a + 1)).head?.getD 0 = bs.getD (a + 1) 0:=by rw [List.head?_drop,List.getD_eq_getElem?_getD]
 have hs:signLen (bs.drop a) = if eqSgB (bs.getD a 0) && (bs.getD (a + 1) 0 == 61) then 2 else if signB (bs.getD a 0) then 1 else 0:=by rw [hct]; simp only [signLen,hh]
 have hnx:bs.length≤a + 1→bs.getD (a + 1) 0 = 0:=fun h=>by simp [h]
 have h61:(bs.getD (a + 1) 0 = 61) ↔ ((bs.getD (a + 1) 0).toNat:Int) = 61:=by
  rw [← UInt8.toNat_inj]; show (bs.getD (a + 1) 0).toNat = 61 ↔ _; omega
 have he:eqSgB (bs.getD a 0) = decide (((bs.getD a 0).toNat:Int) = 61∨((bs.getD a 0).toNat:Int) = 33∨((bs.getD a 0).toNat:Int) = 60):=eqN _
 have hg:signB (bs.getD a 0) = decide (((bs.getD a 0).toNat:Int) ∈ ([123,125,40,41,91,93,44,58,59,61,60,43,45,42,47,94,64]:List Int)):=signN _
 rw [hs]
 clear hs hct hh
 simp only [retIs_iff,take_u8_iff agg5 size5,Prod.mk.injEq,AV.int.injEq,and_true,true_and,decide_eq_true_eq,decide_eq_false_iff_not,bytesL_length,Int.toNat_natCast,exists_eq_left',and_assoc,exists_and_left,beq_iff_eq,beq_eq_false_iff_ne,ne_eq]
 rw [wrap64_in (n:=(a:Int) + 1) (by omega) (by omega),show ((a:Int) + 1).toNat = a + 1 by omega]
 have r2:((bs.getD (a + 1) 0).toNat:Int) = 61→(((bs.getD a 0).toNat:Int) = 61∨((bs.getD a 0).toNat:Int) = 33∨((bs.getD a 0).toNat:Int) = 60)→(if (eqSgB (bs.getD a 0) && (bs.getD (a + 1) 0 == 61)) = true then (2:Int) else if signB (bs.getD a 0) = true then 1 else 0) = 2:=fun h1 h2=>by
  rw [if_pos]; rw [he,h61.2 h1,decide_eq_true h2]; rfl
 have r1:¬ (((bs.getD (a + 1) 0).toNat:Int) = 61∧(((bs.getD a 0).toNat:Int) = 61∨((bs.getD a 0).toNat:Int) = 33∨((bs.getD a 0).toNat:Int) = 60))→(if (eqSgB (bs.getD a 0) && (bs.getD (a + 1) 0 == 61)) = true then (2:Int) else if signB (bs.getD a 0) = true then 1 else 0) = if signB (bs.getD a 0) = true then 1 else 0:=fun h=>by
  rw [if_neg]; rw [he]; simp only [Bool.and_eq_true,decide_eq_true_eq,beq_iff_eq,h61]; exact fun h'=>h ⟨h'.2,h'.1⟩
 have hnx':¬ ((a:Int) + 1 < bs.length)→¬ ((bs.getD (a + 1) 0).toNat:Int) = 61:=fun h=>by rw [hnx (by omega)]; decide
 generalize (if (eqSgB (bs.getD a 0) && (bs.getD (a + 1) 0 == 61)) = true then (2:Int) else if signB (bs.getD a 0) = true then 1 else 0) = r at *
 rw [hg] at r1
 clear hnx h61 he hg
 generalize ((bs.getD (a + 1) 0).toNat:Int) = d at *
 generalize ((bs.getD a 0).toNat:Int) = c at *
 have r1':¬ (d = 61∧(c = 61∨c = 33∨c = 60))→c ∈ ([123,125,40,41,91,93,44,58,59,61,60,43,45,42,47,94,64]:List Int)→r = 1:=fun h h2=>by
  rw [r1 h,decide_eq_true h2]; rfl
 have r0':¬ (d = 61∧(c = 61∨c = 33∨c = 60))→¬ c ∈ ([123,125,40,41,91,93,44,58,59,61,60,43,45,42,47,94,64]:List Int)→r = 0:=fun h h2=>by
  rw [r1 h,decide_eq_false h2]; rfl
 clear r1
 simp only [List.mem_cons,List.not_mem_nil,or_false] at r1' r0'
 repeat' (first | refine And.intro ?_ ?_ | intro _)
 all_goals omega
end Go.Abs.Lx
namespace Go.Abs.Lx
open Go.Proofs L8
theorem dig_not {c:UInt8} (hd:digitB c = true):¬ blankB c = true∧¬ (c == 35) = true∧¬ letterB c = true:=by
 have h:=cls_is c
 have h3:=h.b3.2 hd
 refine ⟨fun h1=>?_,fun h1=>?_,fun h1=>?_⟩
 ·have:=h.b1.2 h1; omega
 ·have:=h.b6.2 h1; omega
 ·have:=h.b2.2 h1; omega
theorem tw_dig {c:UInt8} {t:List UInt8} (hd:digitB c = true):((c :: t).takeWhile digitB).length = 1 + (t.takeWhile digitB).length:=by
 rw [List.takeWhile_cons,if_pos hd,List.length_cons]; omega
theorem piece_int {c:UInt8} {t:List UInt8} (hd:digitB c = true) (hno:∀ u,(c :: t).drop ((c :: t).takeWhile digitB).length = 46 :: u→(u.takeWhile digitB).length = 0) :
  piece (c :: t) = (2,((c :: t).takeWhile digitB).length,intErr ((c :: t).take ((c :: t).takeWhile digitB).length)):=by
 obtain ⟨h1,h2,h3⟩:=dig_not hd
 rw [tw_dig hd] at hno ⊢
 simp only [piece]; rw [if_neg h1,if_neg h2,if_neg h3,if_pos hd]
 split
 ·rename_i u hu
  rw [if_pos (hno u hu)]
 ·rfl
theorem piece_dec {c:UInt8} {t u:List UInt8} (hd:digitB c = true) (hu:(c :: t).drop ((c :: t).takeWhile digitB).length = 46 :: u) (hm:(u.takeWhile digitB).length ≠ 0) :
  piece (c :: t) = (3,((c :: t).takeWhile digitB).length + 1 + (u.takeWhile digitB).length,decErr ((c :: t).take (((c :: t).takeWhile digitB).length + 1 + (u.takeWhile digitB).length))) ∧
   decB ((c :: t).take (((c :: t).takeWhile digitB).length + 1 + (u.takeWhile digitB).length)) = true:=by
 obtain ⟨h1,h2,h3⟩:=dig_not hd
 constructor
 ·rw [tw_dig hd] at hu ⊢
  simp only [piece]; rw [if_neg h1,if_neg h2,if_neg h3,if_pos hd,hu]
  simp only
  rw [if_neg hm]
 ·have e:(c :: t) = (c :: t).takeWhile digitB ++ 46 :: u:=by
   conv=>lhs; rw [← List.take_append_drop ((c :: t).takeWhile digitB).length (c :: t),take_tw,hu]
  have e1:(c :: t).take (((c :: t).takeWhile digitB).length + 1 + (u.takeWhile digitB).length) = (c :: t).takeWhile digitB ++ 46 :: u.takeWhile digitB:=by
   conv=>lhs; rw [e]
   rw [List.take_append]
   have hself:((c :: t).takeWhile digitB ++ 46 :: u).takeWhile digitB = (c :: t).takeWhile digitB:=tw_append (takeWhile_all _ _) _
   rw [hself,List.take_of_length_le (by omega),show ((c :: t).takeWhile digitB).length + 1 + (u.takeWhile digitB).length - ((c :: t).takeWhile digitB).length = (u.takeWhile digitB).length + 1 by omega,List.take_succ_cons,take_tw]
  rw [e1]
  exact decB_mk (takeWhile_all _ _) (by rw [List.takeWhile_cons,if_pos hd]; simp) (takeWhile_all _ _) (by intro e; rw [e] at hm; simp at hm)
theorem p141 (m:Int) (bs:List UInt8) (a:Nat) (ha:a < bs.length) (hl:bs.length≤1000000) (hd:digitB (bs.getD a 0) = true):PureOk PQ (GQ m) XR (tbl [(177,s177),(178,s162),(179,s179)]) (itbl []) ⟨nA,nA⟩ [] 141 [bytesA bs,.int .i64 a] (tokR (bs.drop a) a,[]):=by
 constructor
 rw [w141]; unfold w141c5 w141c3 w141c4 w141c2 w141c6 w141c7 w141c1 I6
 have hct:bs.drop a = bs.getD a 0 :: bs.drop (a + 1):=by
  rw [List.drop_eq_getElem_cons ha]; simp [ha]
 have t61:∀ j:Nat,j≤bs.length→tbl [(177,s177),(178,s162),(179,s179)] 177 [bytesA bs,.int .i64 j] = some (.int .i64 ((bs.drop j).takeWhile digitB).length,[]):=fun j hj=>by
  rw [tbl_hit]; exact sAt_eq hj hl trivial
 have t62:∀ l:List UInt8,l.length≤1000000→tbl [(177,s177),(178,s162),(179,s179)] 178 [.str l] = some (.tup [.int .i64 (decP l).1,.int .i64 (decP l).2],[]):=fun l hl'=>by
  rw [tbl_miss (fun h=>absurd h (by decide)),tbl_hit]; simp only [s162]; rw [if_pos hl']
 have t63:∀ l:List UInt8,l.length≤1000000→l.all digitB = true→tbl [(177,s177),(178,s162),(179,s179)] 179 [.str l] = some (.bool (decide (2 ^ 60 < valX l)),[]):=fun l hl' hd'=>by
  rw [tbl_miss (fun h=>absurd h (by decide)),tbl_miss (fun h=>absurd h (by decide)),tbl_hit]; simp only [s179]; rw [if_pos ⟨hl',hd'⟩]
 have hNl:=tw_le (p:=digitB) (bs.drop a)
 rw [List.length_drop] at hNl
 have hN0:0 < ((bs.drop a).takeWhile digitB).length:=by rw [hct,tw_dig hd]; omega
 have hpi:(∀ u,(bs.drop a).drop ((bs.drop a).takeWhile digitB).length = 46 :: u→(u.takeWhile digitB).length = 0)→piece (bs.drop a) = (2,((bs.drop a).takeWhile digitB).length,intErr ((bs.drop a).take ((bs.drop a).takeWhile digitB).length)):=by
  rw [hct]; exact piece_int hd
 have hpd:∀ u,(bs.drop a).drop ((bs.drop a).takeWhile digitB).length = 46 :: u→(u.takeWhile digitB).length ≠ 0→piece (bs.drop a) = (3,((bs.drop a).takeWhile digitB).length + 1 + (u.takeWhile digitB).length,decErr ((bs.drop a).take (((bs.drop a).takeWhile digitB).length + 1 + (u.takeWhile digitB).length))) ∧
   decB ((bs.drop a).take (((bs.drop a).takeWhile digitB).length + 1 + (u.takeWhile digitB).length)) = true:=fun u hu hm=>by
  rw [hct] at hu ⊢; exact piece_dec hd hu hm
 have htk:(bs.drop a).take ((bs.drop a).takeWhile digitB).length = (bs.drop a).takeWhile digitB:=take_tw _
 generalize hNN:((bs.drop a).takeWhile digitB).length = N at *
 have hw:IntKind.i64.wrap ((a:Int) + N) = ((a + N:Nat):Int):=by rw [wrap64_in (by omega) (by omega)]; omega
 have hw2:a + N < bs.length→IntKind.i64.wrap (((a + N:Nat):Int) + 1) = ((a + N + 1:Nat):Int):=fun h=>by rw [wrap64_in (by omega) (by omega)]; omega
 simp only [callIs_iff,t61 a (by omega),hNN,hw,retIs_iff,take_u8_iff agg5 size5,Option.some.injEq,Prod.mk.injEq,AV.int.injEq,AV.tup.injEq,AV.agg.injEq,AV.str.injEq,List.cons.injEq,and_true,true_and,decide_eq_true_eq,decide_eq_false_iff_not,bytesL_length,Int.toNat_natCast,exists_eq_left',and_assoc,exists_and_left,beq_iff_eq,beq_eq_false_iff_ne,ne_eq,gt_iff_lt,true_or,Bool.false_eq_true,false_implies,forall_const]
 have ib:(∀ u,(bs.drop a).drop N = 46 :: u→(u.takeWhile digitB).length = 0)→(0:Int)≤a∧(0:Int)≤((a + N:Nat):Int)∧a≤a + N∧a + N≤bs.length∧∃ l,List.mapM byteOf (((bytesL bs).take (a + N)).drop a) = some l∧∃ b,tbl [(177,s177),(178,s162),(179,s179)] 179 [AV.str l] = some (AV.bool b,[])∧(b = true→0 = (tokTk (bs.drop a) a).kind∧[] = (tokTk (bs.drop a) a).text∧(0:Int) = ((tokTk (bs.drop a) a).at_:Int)∧(N:Int) = tokN (bs.drop a)∧2 = (piece (bs.drop a)).2.2)∧(b = false→2 = (tokTk (bs.drop a) a).kind∧l = (tokTk (bs.drop a) a).text∧(a:Int) = ((tokTk (bs.drop a) a).at_:Int)∧(N:Int) = tokN (bs.drop a)∧0 = (piece (bs.drop a)).2.2):=fun hno=>by
  have hp:=hpi hno
  refine ⟨by omega,by omega,by omega,by omega,_,by rw [drop_take_bytes,List.drop_take,Nat.add_sub_cancel_left]; exact mapByte _,_,t63 _ (by rw [List.length_take]; omega) (by rw [htk]; exact takeWhile_all _ _),fun hb=>?_,fun hb=>?_⟩
  ·have he:intErr ((bs.drop a).take N) = 2:=by simp only [intErr]; rw [if_pos (of_decide_eq_true hb)]
   have e1:tokTk (bs.drop a) a = ⟨0,[],0⟩:=by simp [tokTk,hp,he]
   have e2:tokN (bs.drop a) = N:=by simp [tokN,hp]
   have e3:(piece (bs.drop a)).2.2 = 2:=by rw [hp,he]
   rw [e1,e2,e3]
   exact ⟨rfl,rfl,rfl,rfl,rfl⟩
  ·have he:intErr ((bs.drop a).take N) = 0:=by simp only [intErr]; rw [if_neg (of_decide_eq_false hb)]
   have e1:tokTk (bs.drop a) a = ⟨2,(bs.drop a).take N,a⟩:=by simp [tokTk,txtOf,hp,he]
   have e2:tokN (bs.drop a) = N:=by simp [tokN,hp]
   have e3:(piece (bs.drop a)).2.2 = 0:=by rw [hp,he]
   rw [e1,e2,e3]
   exact ⟨rfl,rfl,rfl,rfl,rfl⟩
 have hg:(bs.drop a).drop N = bs.drop (a + N):=by rw [List.drop_drop]
 refine ⟨fun hlt=>⟨by omega,by omega,by omega,fun h46=>?_,fun h46=>?_⟩,fun hge=>?_⟩
 ·have hlt':a + N < bs.length:=by omega
  have hcu:(bs.drop a).drop N = 46 :: bs.drop (a + N + 1):=by
   rw [hg,List.drop_eq_getElem_cons hlt']
   have:bs[a + N] = 46:=by
    rw [← UInt8.toNat_inj]
    have h9:bs.getD (a + N) 0 = bs[a + N]:=by rw [List.getD_eq_getElem?_getD,List.getElem?_eq_getElem hlt',Option.getD_some]
    rw [← h9]; show (bs.getD (a + N) 0).toNat = 46; omega
   rw [this]
  rw [hw2 hlt',t61 (a + N + 1) (by omega)]
  have hMl:=tw_le (p:=digitB) (bs.drop (a + N + 1))
  rw [List.length_drop] at hMl
  refine ⟨_,rfl,fun hm=>?_,fun hm=>ib fun u hu=>?_⟩
  ·obtain ⟨hp,hdec⟩:=hpd _ hcu (by omega)
   generalize hM:((bs.drop (a + N + 1)).takeWhile digitB).length = M at *
   have hw3:IntKind.i64.wrap (((a + N + 1:Nat):Int) + M) = ((a + (N + 1 + M):Nat):Int):=by rw [wrap64_in (by omega) (by omega)]; omega
   rw [hw3]
   simp only [Int.toNat_natCast]
   have hlen:((bs.drop a).take (N + 1 + M)).length = N + 1 + M:=by rw [List.length_take,List.length_drop]; omega
   have hdp:=decP_decB hdec
   refine ⟨by omega,by omega,by omega,by omega,_,by rw [drop_take_bytes,List.drop_take,Nat.add_sub_cancel_left]; exact mapByte _,_,_,t62 _ (by omega),?_⟩
   have e1:tokTk (bs.drop a) a = ⟨3,(bs.drop a).take (N + 1 + M),a⟩:=by simp [tokTk,txtOf,hp]
   have e2:tokN (bs.drop a) = ((N + 1 + M:Nat):Int):=by simp [tokN,hp]
   have e3:(piece (bs.drop a)).2.2 = decErr ((bs.drop a).take (N + 1 + M)):=by rw [hp]
   rw [hlen,hdp,e1,e2,e3]
   exact ⟨rfl,rfl,rfl,rfl,rfl⟩
  ·rw [hcu] at hu
   injection hu with _ hu
   rw [← hu]; omega
 ·refine ib fun u hu=>?_
  exfalso
  rw [hg] at hu
  have h9:bs.getD (a + N) 0 = 46:=by
   have:=getD_drop' (bs:=bs) (i:=a + N) (k:=0)
   rw [hu] at this
   exact this.symm
  rw [h9] at h46
  exact h46 rfl
 ·refine ib fun u hu=>?_
  exfalso
  have:=congrArg List.length hu
  rw [List.length_drop,List.length_drop,List.length_cons] at this
  omega
end Go.Abs.Lx
namespace Go.Abs.Lx
open Go.Proofs L8
theorem p142 (m:Int) (bs:List UInt8) (a:Nat) (ha:a < bs.length) (hl:bs.length≤1000000) (hd:bs.getD a 0 = 34):PureOk PQ (GQ m) XR (tbl []) (itbl []) (a142 bs a) [] 142 [bytesA bs,.int .i64 a] (tokR (bs.drop a) a,[]):=by
 constructor
 rw [w142]; unfold w142c10 w142c9 w142c8 w142c7 w142c5 w142c4 w142c3 w142c6 w142c2 w142c1 I6
 have hct:bs.drop a = 34 :: bs.drop (a + 1):=by
  rw [List.drop_eq_getElem_cons ha]; have h9:bs.getD a 0 = bs[a]:=by simp [ha]
  rw [← h9,hd]
 have hLl:=tw_le (p:=lineB) (bs.drop (a + 1))
 rw [List.length_drop] at hLl
 have htt:=take_tw (p:=lineB) (bs.drop (a + 1))
 generalize hW:(bs.drop (a + 1)).takeWhile lineB = W at *
 have hw1:IntKind.i64.wrap ((a:Int) + 1) = ((a + 1:Nat):Int):=by rw [wrap64_in (by omega) (by omega)]; omega
 simp only [hw1,valsAre_iff,stIs_iff,retIs_iff,take_u8_iff agg5 size5,Prod.mk.injEq,AV.int.injEq,AV.tup.injEq,AV.agg.injEq,AV.str.injEq,List.cons.injEq,and_true,true_and,decide_eq_true_eq,decide_eq_false_iff_not,bytesL_length,Int.toNat_natCast,exists_eq_left',and_assoc,exists_and_left,beq_iff_eq,bne_iff_ne,beq_eq_false_iff_ne,bne_eq_false_iff_eq,ne_eq,gt_iff_lt,true_or,forall_const]
 have hwx:∀ x:Nat,x≤W.length→IntKind.i64.wrap ((a:Int) + ((1 + x:Nat):Int)) = ((a + 1 + x:Nat):Int):=fun x hx=>by rw [wrap64_in (by omega) (by omega)]; omega
 have hwy:∀ x:Nat,x≤W.length→IntKind.i64.wrap (((1 + x:Nat):Int) + 1) = ((1 + (x + 1):Nat):Int):=fun x hx=>by rw [wrap64_in (by omega) (by omega)]; omega
 have hq34:((34:UInt8) == 34) = true:=rfl
 have hquo:((bs.drop (a + 1)).drop W.length).head? = some 34→piece (bs.drop a) = (4,W.length + 2,txtErr W):=fun h=>by
  rw [hct]
  cases hdr:(bs.drop (a + 1)).drop W.length with
  | nil=>rw [hdr] at h; cases h
  | cons c u =>
   rw [hdr] at h
   simp only [List.head?_cons,Option.some.injEq] at h
   subst h
   simp only [piece,hW]
   rw [if_neg (by decide),if_neg (by decide),if_neg (by decide),if_neg (by decide),if_pos hq34,hdr]
   rfl
 have hun:¬ ((bs.drop (a + 1)).drop W.length).head? = some 34→piece (bs.drop a) = (-1,1,80):=fun h=>by
  rw [hct]
  have hno:∀ u,(bs.drop (a + 1)).drop W.length ≠ 34 :: u:=fun u hu=>h (by rw [hu]; rfl)
  simp only [piece,hW]
  rw [if_neg (by decide),if_neg (by decide),if_neg (by decide),if_neg (by decide),if_pos hq34]
 have un:¬ ((bs.drop (a + 1)).drop W.length).head? = some 34→0 = (tokTk (bs.drop a) a).kind∧[] = (tokTk (bs.drop a) a).text∧(0:Int) = ((tokTk (bs.drop a) a).at_:Int)∧0 = tokN (bs.drop a)∧80 = (piece (bs.drop a)).2.2:=fun h=>by
  have hp:=hun h
  have e1:tokTk (bs.drop a) a = ⟨0,[],0⟩:=by simp [tokTk,hp]
  have e2:tokN (bs.drop a) = 0:=by simp [tokN,hp]
  rw [e1,e2,hp]
  exact ⟨rfl,rfl,rfl,rfl,rfl⟩
 have hgx:∀ x,bs.getD (a + 1 + x) 0 = (bs.drop (a + 1)).getD x 0:=fun x=>getD_drop'.symm
 have hline:∀ c:UInt8,lineB c = true ↔ ¬ (c.toNat:Int) = 34∧¬ (c.toNat:Int) = 10:=fun c=>by
  have h1:c = 34 ↔ (c.toNat:Int) = 34:=by rw [← UInt8.toNat_inj]; show c.toNat = 34 ↔ _; omega
  have h2:c = 10 ↔ (c.toNat:Int) = 10:=by rw [← UInt8.toNat_inj]; show c.toNat = 10 ↔ _; omega
  simp only [lineB,Bool.and_eq_true,bne_iff_ne,ne_eq,h1,h2]
 have hlf:∀ c:UInt8,lineB c = false ↔ (c.toNat:Int) = 34∨(c.toNat:Int) = 10:=fun c=>by
  cases h:lineB c with
  | true=>rw [hline] at h; simp; omega
  | false=>simp; by_cases h3:(c.toNat:Int) = 34; exact .inl h3; by_cases h4:(c.toNat:Int) = 10; exact .inr h4; rw [(hline c).2 ⟨h3,h4⟩] at h; cases h
 refine ⟨⟨0,by omega,by omega⟩,fun x hx=>?_,fun h=>?_,fun h=>?_,fun h34=>?_⟩
 ·rw [hwx x hx,hwy x hx]
  simp only [Int.toNat_natCast,hgx]
  have hstop:(x < (bs.drop (a + 1)).length→lineB ((bs.drop (a + 1)).getD x 0) = false)→∃ _:Unit,((1 + x:Nat):Int) = ((1 + W.length:Nat):Int):=fun h=>by
   have:=tw_stop (p:=lineB) (l:=bs.drop (a + 1)) (k:=x) (by rw [hW]; exact hx) h
   rw [hW] at this
   exact ⟨(),by omega⟩
  have hln:(bs.drop (a + 1)).length = bs.length - (a + 1):=by simp
  refine ⟨fun hlt=>⟨by omega,by omega,by omega,fun h34=>⟨by omega,by omega,by omega,fun h10=>⟨x + 1,rfl,?_,by omega⟩,fun h10=>hstop fun _=>(hlf _).2 (.inr h10)⟩,fun h34=>hstop fun _=>(hlf _).2 (.inl h34)⟩,fun hge=>hstop fun h=>by omega⟩
  have:=tw_next (p:=lineB) (l:=bs.drop (a + 1)) (k:=x) (by rw [hW]; exact hx) (by omega) ((hline _).2 ⟨h34,h10⟩)
  rw [hW] at this
  exact this
 ·rw [hwx _ (Nat.le_refl _)] at h
  refine un fun h'=>?_
  have:(bs.drop (a + 1)).drop W.length = []:=by apply List.drop_of_length_le; rw [List.length_drop]; omega
  rw [this] at h'; cases h'
 ·rw [hwx _ (Nat.le_refl _)] at h ⊢
  simp only [Int.toNat_natCast,hgx]
  have hlt:W.length < (bs.drop (a + 1)).length:=by rw [List.length_drop]; omega
  have hhd:((bs.drop (a + 1)).drop W.length).head? = some ((bs.drop (a + 1)).getD W.length 0):=by
   rw [List.head?_drop,List.getD_eq_getElem?_getD,List.getElem?_eq_getElem hlt]; rfl
  have hat:=tw_at (p:=lineB) (l:=bs.drop (a + 1)) (by rw [hW]; exact hlt)
  rw [hW,hlf] at hat
  refine ⟨by omega,by omega,by omega,fun h10=>un fun h'=>?_,fun h10=>⟨(),?_⟩⟩
  ·rw [hhd] at h'
   injection h' with h'
   rw [h'] at h10
   exact absurd h10 (by decide)
  ·rw [hhd]
   congr 1
   rw [← UInt8.toNat_inj]
   show ((bs.drop (a + 1)).getD W.length 0).toNat = 34
   omega
 ·have hp:=hquo h34
  have hlt:W.length < (bs.drop (a + 1)).length:=by
   rcases Nat.lt_or_ge W.length (bs.drop (a + 1)).length with h | h
   ·exact h
   ·rw [List.drop_of_length_le h] at h34; cases h34
  rw [List.length_drop] at hlt
  rw [hwx _ (Nat.le_refl _),hwy _ (Nat.le_refl _)]
  simp only [Int.toNat_natCast]
  have e2:((1 + (W.length + 1):Nat):Int) = tokN (bs.drop a):=by simp [tokN,hp]; omega
  have bad:∀ e:Int,e ≠ 0→txtErr W = e→0 = (tokTk (bs.drop a) a).kind∧[] = (tokTk (bs.drop a) a).text∧(0:Int) = ((tokTk (bs.drop a) a).at_:Int)∧((1 + (W.length + 1):Nat):Int) = tokN (bs.drop a)∧e = (piece (bs.drop a)).2.2:=fun e he het=>by
   have e1:tokTk (bs.drop a) a = ⟨0,[],0⟩:=by simp [tokTk,hp,het,he]
   rw [e1,← e2,hp,het]
   exact ⟨rfl,rfl,rfl,rfl,rfl⟩
  refine ⟨by omega,by omega,by omega,by omega,W,?_,fun h=>bad 2 (by decide) (by simp only [txtErr]; rw [if_pos (by omega)]),fun h=>⟨rfl,⟨0,rfl,by omega,by simp⟩,fun x hx=>?_⟩⟩
  ·rw [drop_take_bytes,List.drop_take,Nat.add_sub_cancel_left,htt]
   exact mapByte _
  ·obtain ⟨hx1,hx2⟩:=hx
   refine ⟨fun hlt2=>?_,fun hge=>?_⟩
   ·have hxl:x < W.length:=by omega
    have hbad:badB (W.getD x 0) = (decide ((W.getD x 0).toNat < 32) || decide (126 < (W.getD x 0).toNat) || (W.getD x 0) == 92):=rfl
    have h92:(W.getD x 0) = 92 ↔ (W.getD x 0).toNat = 92:=by rw [← UInt8.toNat_inj]; rfl
    have hnx:=any_take_succ (p:=badB) hxl
    have hget:badB (W.getD x 0) = true→W.any badB = true:=any_of_get hxl
    have hsome:W[x]? = some (W.getD x 0):=by simp [hxl]
    generalize W.getD x 0 = c at *
    have fin:badB c = true→_:=fun hb=>bad 3 (by decide) (by simp only [txtErr]; rw [if_neg (by omega),if_pos (hget hb)])
    refine ⟨by omega,c,hsome,fun h1=>fin (by rw [hbad]; simp; omega),fun h1=>⟨by omega,c,hsome,fun h2=>fin (by rw [hbad]; simp; omega),fun h2=>⟨by omega,c,hsome,fun h3=>fin (by rw [hbad]; simp only [Bool.or_eq_true,decide_eq_true_eq,beq_iff_eq,h92]; omega),fun h3=>⟨x + 1,by rw [wrap64_in (by omega) (by omega)]; omega,by omega,?_,by omega⟩⟩⟩⟩
    rw [hnx,hx2,hbad]
    have:¬ c = 92:=by rw [h92]; omega
    simp [this]
    omega
   ·have hxe:x = W.length:=by omega
    subst hxe
    rw [List.take_length] at hx2
    have het:txtErr W = 0:=by simp only [txtErr]; rw [if_neg (by omega),if_neg (by simp [hx2])]
    have htx:txtOf (bs.drop a) = W:=by
     rw [txtOf,hp,if_pos rfl,hct]
     simp only [List.take_succ_cons,List.drop_succ_cons,List.drop_zero,Nat.add_sub_cancel]
     rw [List.take_take,show min W.length (W.length + 1) = W.length by omega,htt]
    have e1:tokTk (bs.drop a) a = ⟨4,W,a⟩:=by simp [tokTk,hp,het,htx]
    rw [e1,← e2,hp,het]
    exact ⟨rfl,rfl,rfl,rfl,rfl⟩
end Go.Abs.Lx
