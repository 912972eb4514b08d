/- Own texts, part 6. -/
import Derived.Test.YtfcdefnkhkijaaaGreatDoorPart5
import Derived.Test.YtfcdefnkhkijaaaGreatDoorPart4
import Derived.Test.YtfcdefnkhkijaaaGreatDoorPart3
import Derived.RangeFuncNested
import Derived.RangeFuncBound
import Derived.RangeFuncCalls
import Derived.RangeFuncLeaves
import Derived.RangeFuncBox
import Derived.Shelf.Abstract
import Derived.Shelf.RegionOpen
import Derived.WalkKit
import Derived.OwnWalkIn
import Derived.TacticsInMore
import Derived.LoopNIn
import Derived.LoopIn
import Derived.Maps.AppendAt
import Derived.BigRegionIn

namespace Go.Abs
open Go.Proofs
theorem compL_snoc (l:List Lb) (y:Lb):compL (l ++ [y]) = stepC (compL l) y:=by
 unfold compL; rw [List.foldl_append]; rfl
theorem comp_take {l:List Lb} {i:Nat} (h:i < l.length):compL (l.take (i + 1)) = stepC (compL (l.take i)) l[i]:=by
 rw [List.take_succ_eq_append_getElem h,compL_snoc]
theorem step_last (acc:List Lb) (y:Lb):(stepC acc y).getLast? = some y:=by
 unfold stepC
 split
 ·assumption
 ·simp
theorem comp_last {l:List Lb} {i:Nat} (h:i < l.length):(compL (l.take (i + 1))).getLast? = some l[i]:=by
 rw [comp_take h,step_last]
theorem comp_len:∀ (l acc:List Lb),(l.foldl stepC acc).length≤acc.length + l.length
 | [],acc=>by simp
 | y :: l,acc=>by
  have:=comp_len l (stepC acc y)
  have h:(stepC acc y).length≤acc.length + 1:=by
   unfold stepC; split
   ·omega
   ·simp
  rw [List.foldl_cons,List.length_cons]; omega
theorem compL_len (l:List Lb):(compL l).length≤l.length:=by
 have:=comp_len l []
 unfold compL; simpa using this
theorem compL_small {l:List Lb} (h:l.length < 2):compL l = l:=by
 match l,h with
 | [],_=>rfl
 | [x],_=>rfl
theorem lbq (a x:Lb):(a.key == x.key && (a.event == x.event && (a.know == x.know && true))) = decide (a = x):=lb_beq a x
theorem set_lb {cur:List Lb} {k:Nat} (h:k < cur.length) (y:Lb):(lbsL cur).set k (keptSetC ((lbsL cur).getD k .junk) 0 [.str y.key,.int .i64 y.event,.int .i64 y.know]) = lbsL (cur.set k y):=by
 have hg:(lbsL cur).getD k .junk = lbA cur[k]:=by
  rw [List.getD_eq_getElem?_getD,List.getElem?_map,List.getElem?_eq_getElem h]; rfl
 rw [hg]
 exact (List.map_set (f:=lbA) (l:=cur) (i:=k) (a:=y)).symm
theorem p60 (m:Int) (l:List Lb) (hl:l.length≤2000000):OpenOk PQ (GQ m) XC (tbl []) (itbl []) (a60 l) [] 60 [.ms 0 3 l.length] (sC l) (.ms 0 3 (compL l).length,sC (compL l)):=by
 constructor
 rw [w60]
 have done:compL l = l→RetOpen ((AV.ms 0 3 l.length).p2 1 && boxesOk 1 [some [AV.tup [AV.bool true,AV.sl 3 (lbsL l) Own.no]]]) (.ms 0 3 l.length) { boxes:=[some [AV.tup [AV.bool true,AV.sl 3 (lbsL l) Own.no]]],live:=[] } (.ms 0 3 (compL l).length,sC (compL l)):=fun h=>⟨rfl,by rw [h]; rfl⟩
 refine ⟨fun h=>done (compL_small (by have:=of_decide_eq_true h; omega)),fun h=>?_⟩
 have h2:2≤l.length:=by have:=of_decide_eq_false h; omega
 refine ⟨⟨⟨1,0,0,[]⟩,⟨rfl⟩,⟨rfl⟩,⟨Nat.le_refl _,by show 1≤l.length; omega,(by show compL (l.take 1) = l.take 1; exact compL_small (by rw [List.length_take]; omega))⟩,trivial⟩,fun x ⟨h1,hle,hx⟩=>⟨fun hlt=>?_,fun hge=>done ?_⟩⟩
 ·have hlt:x.i < l.length:=by have:=of_decide_eq_true hlt; omega
  have w1:IntKind.i64.wrap ((x.i:Int) - 1) = ((x.i - 1:Nat):Int):=by rw [wrapi64]; omega
  have hm:x.i - 1 < l.length:=by omega
  have hlast:(compL (l.take x.i)).getLast? = some l[x.i - 1]:=by
   have:=comp_last hm
   rwa [show x.i - 1 + 1 = x.i by omega] at this
  rw [w1]
  refine ⟨⟨by omega,by omega⟩,_,_,_,by rw [Int.toNat_natCast]; exact take_lb hlt,⟨by omega,by omega⟩,_,_,_,by rw [Int.toNat_natCast]; exact take_lb hm,fun heq=>?_,fun hne=>?_⟩
  ·rw [lbq] at heq
   have heq:l[x.i] = l[x.i - 1]:=of_decide_eq_true heq
   refine ⟨by omega,trivial,⟨by omega,Nat.le_refl _⟩,⟨⟨x.i,x.i,1,l⟩,⟨by rw [Int.toNat_natCast]; rfl⟩,⟨rfl⟩,⟨h1,hlt,rfl,Nat.le_refl _,hlt,Nat.le_refl _,?_,rfl⟩,trivial⟩,fun y hy=>⟨fun hjl=>?_,fun hjl=>?_⟩⟩
   ·show l.take x.i = compL (l.take (x.i + 1))
    rw [comp_take hlt,stepC,if_pos (by rw [hlast,heq]),hx]
   ·obtain ⟨i,k,j,cur⟩:=y
    simp only at hy hjl ⊢
    obtain ⟨hi1,hil,hcl,hj1,hij,hk,hpre,hsuf⟩:=hy
    have hjl:i + j < l.length:=by have:=of_decide_eq_true hjl; omega
    have w2:IntKind.i64.wrap ((j:Int) - 1) = ((j - 1:Nat):Int):=by rw [wrapi64]; omega
    have w3:IntKind.i64.wrap ((k:Int) + 1) = ((k + 1:Nat):Int):=by rw [wrapi64]; omega
    have w4:IntKind.i64.wrap ((j:Int) + 1) = ((j + 1:Nat):Int):=by rw [wrapi64]; omega
    have e1:∀ q (hq:q < l.length) (hq':q < cur.length),i + j - 1≤q→cur[q] = l[q]:=fun q hq hq' hle=>by
     have:=congrArg (·[q - (i + j - 1)]?) hsuf
     simp only [List.getElem?_drop,show i + j - 1 + (q - (i + j - 1)) = q by omega] at this
     rw [List.getElem?_eq_getElem hq,List.getElem?_eq_getElem hq'] at this
     injection this
    have hc1:i + j < cur.length:=by omega
    have hc2:i + (j - 1) < cur.length:=by omega
    have hm':i + j - 1 < l.length:=by omega
    have g1:=e1 (i + j) hjl hc1 (by omega)
    have g2:=e1 (i + (j - 1)) (by omega) hc2 (by omega)
    have hlast':(compL (l.take (i + j))).getLast? = some l[i + (j - 1)]:=by
     have:=comp_last (l:=l) (i:=i + (j - 1)) (by omega)
     rwa [show i + (j - 1) + 1 = i + j by omega] at this
    have hdrop:cur.drop (i + j) = l.drop (i + j):=by
     have:=congrArg (·.drop 1) hsuf
     simpa only [List.drop_drop,show i + j - 1 + 1 = i + j by omega] using this
    rw [w2,w3,w4]
    refine ⟨⟨by omega,by omega⟩,_,_,_,by rw [Int.toNat_natCast]; exact take_lb hc1,⟨by omega,by omega⟩,_,_,_,by rw [Int.toNat_natCast]; exact take_lb hc2,fun hne=>?_,fun heq=>⟨⟨i,k,j + 1,cur⟩,⟨rfl⟩,⟨rfl⟩,⟨hi1,hil,hcl,by show 1≤j + 1; omega,by show i + (j + 1)≤l.length; omega,by show k + 1≤i + (j + 1); omega,?_,?_⟩,by show l.length - (j + 1) < l.length - j; omega⟩⟩
    ·rw [lbq,g1,g2] at hne
     have hne:l[i + j] ≠ l[i + (j - 1)]:=by simpa using hne
     have hkc:k < cur.length:=by omega
     refine ⟨⟨by omega,by omega⟩,_,_,_,by rw [Int.toNat_natCast]; exact take_lb hc1,⟨by omega,by omega⟩,by rw [Int.toNat_natCast,List.length_map]; exact hkc,⟨i,k + 1,j + 1,cur.set k cur[i + j]⟩,⟨rfl⟩,⟨?_⟩,⟨hi1,hil,by show (cur.set k _).length = _; rw [List.length_set]; exact hcl,by show 1≤j + 1; omega,by show i + (j + 1)≤l.length; omega,by show k + 1 + 1≤i + (j + 1); omega,?_,?_⟩,by show l.length - (j + 1) < l.length - j; omega⟩
     ·rw [Int.toNat_natCast,set_lb hkc]
     ·show (cur.set k cur[i + j]).take (k + 1) = compL (l.take (i + j + 1))
      have hj:k < (cur.set k cur[i + j]).length:=by rw [List.length_set]; omega
      rw [comp_take hjl,stepC,if_neg (by rw [hlast']; intro h; injection h with h; exact hne h.symm),← hpre,List.take_succ_eq_append_getElem hj,List.take_set_of_le (Nat.le_refl _),List.getElem_set_self,g1]
     ·show (cur.set k cur[i + j]).drop (i + (j + 1) - 1) = l.drop (i + (j + 1) - 1)
      rw [show i + (j + 1) - 1 = i + j by omega,List.drop_set_of_lt (by omega)]
      exact hdrop
    ·show cur.take k = compL (l.take (i + j + 1))
     rw [lbq,g1,g2] at heq
     have heq:l[i + j] = l[i + (j - 1)]:=by simpa using heq
     rw [comp_take hjl,stepC,if_pos (by rw [hlast',heq])]
     exact hpre
    ·show cur.drop (i + (j + 1) - 1) = l.drop (i + (j + 1) - 1)
     rw [show i + (j + 1) - 1 = i + j by omega]
     exact hdrop
   ·obtain ⟨i,k,j,cur⟩:=y
    simp only at hy hjl ⊢
    obtain ⟨hi1,hil,hcl,hj1,hij,hk,hpre,hsuf⟩:=hy
    have hjl:i + j = l.length:=by have:=of_decide_eq_false hjl; omega
    have hn:(lbsL cur).length = cur.length:=List.length_map _
    rw [hjl,List.take_of_length_le (Nat.le_refl _)] at hpre
    have hkl:(compL l).length = k:=by rw [← hpre,List.length_take]; omega
    rw [Int.toNat_natCast]
    refine ⟨by omega,trivial,⟨by omega,Nat.le_refl _⟩,trivial,by omega,by omega,trivial,⟨Nat.zero_le _,by omega⟩,rfl,?_⟩
    rw [← List.map_take,hpre,hkl]
    rfl
  ·rw [lbq] at hne
   have hne:l[x.i] ≠ l[x.i - 1]:=of_decide_eq_false hne
   have w2:IntKind.i64.wrap ((x.i:Int) + 1) = ((x.i + 1:Nat):Int):=by rw [wrapi64]; omega
   refine ⟨⟨x.i + 1,0,0,[]⟩,⟨by rw [w2]⟩,⟨rfl⟩,⟨by show 1≤x.i + 1; omega,hlt,?_⟩,by show l.length - (x.i + 1) < l.length - x.i; omega⟩
   show compL (l.take (x.i + 1)) = l.take (x.i + 1)
   rw [comp_take hlt,stepC,if_neg (by rw [hlast]; intro h; injection h with h; exact hne h.symm),hx,List.take_succ_eq_append_getElem hlt]
 ·have:x.i = l.length:=by have:=of_decide_eq_false hge; omega
  rw [this,List.take_of_length_le (Nat.le_refl _)] at hx
  exact hx
theorem p60e (m:Int):OpenOk PQ (GQ m) XC (tbl []) (itbl []) nAn [] 60 [.sl 3 [] .full] ⟨[],[]⟩ (.sl 3 [] .full,⟨[],[]⟩):=by
 constructor
 rw [w60e m _ .no]
 exact ⟨fun _=>⟨rfl,rfl⟩,nofun⟩
def sComp:ISpec:=fun args S=>match args,S with
 | [.ms 0 3 n],⟨[some [.tup [.bool true,.sl 3 es .no]]],[]⟩=>some (LbsIn es∧es.length = n,.ms 0 3 (keptComp es).length,⟨[some (ownC 3 (keptComp es))],[]⟩)
 | [.sl 3 [] .full],⟨[],[]⟩=>some (True,.sl 3 [] .full,⟨[],[]⟩)
 | _,_=>none
theorem o60 (m:Int):ISpecOk PQ (GQ m) 60 sComp:=ispec_of (X:=XC) (m:=[]) mixedQ tbl_nil itbl_nil fun args S p r h hp=>by
 unfold sComp at h
 split at h
 case h_3=>cases h
 case h_1 =>
  injection h with h
  simp only [Prod.mk.injEq] at h
  obtain ⟨rfl,rfl⟩:=h
  obtain ⟨⟨l,rfl,hl⟩,rfl⟩:=hp
  have:=p60 m l hl
  rw [keptComp_ok,List.length_map,List.length_map]
  exact ⟨_,this⟩
 case h_2 =>
  injection h with h
  simp only [Prod.mk.injEq] at h
  obtain ⟨rfl,rfl⟩:=h
  exact ⟨_,p60e m⟩
theorem w21 (m:Int) (y:Lb) (t:List Lb) (r:AV):(laxW PQ (GQ m) X24 (tbl []) (itbl [(57,sClone 3 32),(58,sSort),(60,sComp)]) nAn [] 21 [.sl 3 (lbsL (y :: t)) .no] (r,[])) =
(((lbsL (y :: t)).length * (32:Nat)).le ((140737488355328:Nat)) ∧
 (LbsIn (lbsL (y :: t))∧(lbsL (y :: t)).length = (lbsL (y :: t)).length) ∧
  (LbsIn (keptSort (lbsL (y :: t)))∧(keptSort (lbsL (y :: t))).length = (lbsL (y :: t)).length) ∧
   (keptComp (keptSort (lbsL (y :: t)))).length = (keptComp (keptSort (lbsL (y :: t)))).length ∧
    RetLax (AV.sl ((3:Nat)) (keptComp (keptSort (lbsL (y :: t)))) Own.no) (r,[])):=by kernel_rfl
theorem w21n (m:Int) (r:AV):(laxW PQ (GQ m) X24 (tbl []) (itbl [(57,sClone 3 32),(58,sSort),(60,sComp)]) nAn [] 21 [.sl 3 [] .no] (r,[])) =
(True∧True∧True∧RetLax (AV.sl ((3:Nat)) [] Own.full) (r,[])):=by kernel_rfl
def srtU (l:List Lb):List Lb:=compL (srtL l)
theorem srtU_len (l:List Lb):(srtU l).length≤l.length:=by
 have:=compL_len (srtL l)
 rw [srt_len] at this
 exact this
theorem p21 (m:Int) (l:List Lb) (hl:l.length≤2000000):LaxOk PQ (GQ m) X24 (tbl []) (itbl [(57,sClone 3 32),(58,sSort),(60,sComp)]) nAn [] 21 [.sl 3 (lbsL l) .no] (.sl 3 (lbsL (srtU l)) .no,[]):=by
 constructor
 cases l with
 | nil =>
  show laxW PQ (GQ m) X24 (tbl []) (itbl [(57,sClone 3 32),(58,sSort),(60,sComp)]) nAn [] 21 [.sl 3 [] .no] (.sl 3 (lbsL (srtU [])) .no,[])
  have e:srtU [] = []:=List.length_eq_zero_iff.1 (Nat.le_zero.1 (srtU_len []))
  rw [w21n,e]
  exact ⟨trivial,trivial,trivial,⟨⟨rfl,rfl,.inl rfl⟩,rfl,rfl⟩⟩
 | cons y t =>
  rw [w21]
  have e:(lbsL (y :: t)).length = (y :: t).length:=List.length_map _
  have h1:LbsIn (lbsL (y :: t)):=⟨_,rfl,hl⟩
  have h2:LbsIn (keptSort (lbsL (y :: t))):=by
   rw [keptSort_ok]
   exact ⟨_,rfl,by rw [srt_len]; exact hl⟩
  have h3:keptComp (keptSort (lbsL (y :: t))) = lbsL (srtU (y :: t)):=by rw [keptSort_ok,keptComp_ok]; rfl
  refine ⟨by rw [e]; exact Nat.le_of_lt_succ (by omega),⟨h1,rfl⟩,⟨h2,by rw [keptSort_ok,List.length_map,List.length_map,srt_len]⟩,rfl,?_⟩
  rw [h3]
  exact ⟨⟨rfl,rfl,.inl rfl⟩,rfl,rfl⟩
def s21:Spec:=fun args=>match args with
 | [.sl sz es _]=>match unL unLb es with
  | some l=>if (sz = 3∨es = [])∧l.length≤2000000 then some (.sl 3 (lbsL (srtU l)) .no,[]) else none
  | none=>none
 | _=>none
theorem o21 (m:Int):SpecOk PQ (GQ m) 21 s21:=lax_ofW (X:=X24) (m:=[]) [3] mixedQ tbl_nil (itbl_cons (o57 m) (itbl_cons (o58 m) (itbl_cons (o60 m) itbl_nil))) fun args r h=>by
 unfold s21 at h
 split at h
 case h_2=>cases h
 rename_i sz es o
 split at h
 case h_2=>cases h
 rename_i l hu
 split at h
 case isFalse=>cases h
 rename_i hc
 obtain ⟨hz,hl⟩:=hc
 injection h with h
 subst h
 obtain rfl:=unL_inv unLb_inv hu
 have e:wkL [3] [.sl sz (lbsL l) o] = [.sl 3 (lbsL l) .no]:=by
  rcases hz with rfl | hz
  ·cases l <;> rfl
  ·have:l = []:=by simpa using hz
   subst this; rfl
 rw [e]
 exact ⟨nAn,p21 m l hl⟩
theorem run21 {l:List Lb} (hl:l.length≤2000000):s21 [.sl 3 (lbsL l) .no] = some (.sl 3 (lbsL (srtU l)) .no,[]):=by
 have hu:unL unLb (lbsL l) = some l:=by
  clear hl
  induction l with
  | nil=>rfl
  | cons x l ih=>simp only [lbsL,List.map_cons,unL,unLb_ok,ih]
 simp only [s21,hu,true_or,true_and,hl,if_true]
end Go.Abs
namespace Go.Abs
open Go.RowKit
theorem SpecOk.own {P:Program} {G:Glob} {f:FuncId} {s s':Spec} (hs:SpecOk P G f s) (h:∀ args r',s' args = some r'→∃ r,s args = some r∧RetLax r.1 r'∧∀ L,RetLax (adopt L r.1) r'):SpecOk P G f s':=by
 intro g args r' lv hr
 by_cases e:g = f
 ·subst e
  simp only [if_true] at hr
  obtain ⟨r,h1,h2,h3⟩:=h args _ hr
  have hlv:lv = []:=h2.none
  subst hlv
  intro E w vs hI hG hn hv hcl
  refine (hs g args r.1 r.2 (by simp only [if_true]; exact h1) E w vs hI hG hn hv hcl).mono ?_
  rintro e w' ⟨v,he,I',k1,k2,k3,k4⟩
  refine ⟨v,he,I',k1,k2,k3,.inl ⟨rfl,fun B K=>?_⟩⟩
  rcases k4 with ⟨_,k4⟩ | ⟨n,e',hv',sz,xs,_,_,_,_,hrep⟩
  ·exact h2.lax.rep (k4 B K)
  ·exact rep_closed2 ((h3 0).lax.rep (hrep B (fun _ _ _=>True) 0 trivial)) h2.closed B K
 ·simp only [e,if_false] at hr
  cases hr
end Go.Abs
namespace Go.Abs
open Go.Proofs Go.Wire
def lbB (x:Lb):List UInt8:=textL x.key ++ uintL (zig x.event) ++ uintL (zig x.know)
def lbFit (n:Nat) (x:Lb):Prop:=n + x.key.length≤1900000∧i64W x.event∧i64W x.know
instance (n : Nat) (x : Lb) : Decidable (lbFit n x) := inferInstanceAs (Decidable (_ ∧ _))
def s72:Spec:=fun args=>match args with
 | [.sl sz es _,.agg [.str k,.int .i64 a,.int .i64 b]]=>if sz = 1∨es = [] then onBytes es fun bs=>if lbFit bs.length ⟨k,a,b⟩ then some (laxR (bs ++ lbB ⟨k,a,b⟩)) else none else none
 | _=>none
def laxS (s:Spec):Spec:=fun args=>match s args with
 | some (.sl 1 es (.tok 0),_)=>some (.sl 1 es .no,[])
 | _=>none
theorem laxS_at {s:Spec} {args:List AV} {l:List UInt8} (h:s args = some (ownR l)):laxS s args = some (laxR l):=by
 unfold laxS; rw [h]; rfl
theorem laxS_ok {P:Program} {G:Glob} {f:FuncId} {s:Spec} (hs:SpecOk P G f s):SpecOk P G f (laxS s):=SpecOk.own hs fun args r' hr=>by
 unfold laxS at hr
 split at hr
 case h_2=>cases hr
 rename_i es lv h
 injection hr with hr; subst hr
 have hl:∀ o,Lax2 (.sl 1 es o) (.sl 1 es .no):=fun o=>⟨rfl,rfl,.inl rfl⟩
 exact ⟨_,h,⟨hl _,rfl,rfl⟩,fun L=>⟨hl _,rfl,rfl⟩⟩
def XA:Shapes:=fun f=>match f with
 | 74 | 119 | 120 | 121 | 122=>some shOwn
 | 25 | 26 | 62 | 73 | 76 | 72 | 75=>some shLax
 | 46 | 33=>some shB
 | _=>none
theorem w72 (m:Int) (bs r:List UInt8) (x:Lb):(laxW PQ (GQ m) XA (tbl [(26,laxS s26),(25,laxS s25)]) (itbl []) nAn [] 72 [bytesA bs,.agg [.str x.key,.int .i64 x.event,.int .i64 x.know]] (laxR r)) =
(∃ (es:List AV),
  CallIs (tbl [((26:Nat),laxS s26),((25:Nat),laxS s25)] ((26:Nat)) [AV.sl ((1:Nat)) (bytesL bs) Own.no,AV.str x.key]) (AV.sl ((1:Nat)) es Own.no)
      [] ∧
    ∃ (es_1:List AV),
      CallIs (tbl [((26:Nat),laxS s26),((25:Nat),laxS s25)] ((25:Nat)) [AV.sl ((1:Nat)) es Own.no,AV.int IntKind.i64 x.event])
 (AV.sl ((1:Nat)) es_1 Own.no) [] ∧
        ∃ (es:List AV),
 CallIs (tbl [((26:Nat),laxS s26),((25:Nat),laxS s25)] ((25:Nat)) [AV.sl ((1:Nat)) es_1 Own.no,AV.int IntKind.i64 x.know])
 (AV.sl ((1:Nat)) es Own.no) [] ∧
 RetLax (AV.sl ((1:Nat)) es Own.no) (AV.sl ((1:Nat)) (bytesL r) Own.no,[])):=by kernel_rfl
theorem s25_at {bs:List UInt8} {n:Int} {o:Own} (h:strOk bs) (hn:i64W n):s25 [.sl 1 (bytesL bs) o,.int .i64 n] = some (ownR (bs ++ uintL (zig n))):=by
 simp only [s25,sBytesNum,onBytes,unBytes_mk,true_or,true_and,if_true,h,hn]
theorem s26_at {bs s:List UInt8} {o:Own} (h:strOk bs) (hn:strOk s):s26 [.sl 1 (bytesL bs) o,.str s] = some (ownR (bs ++ textL s)):=by
 simp only [s26,onBytes,unBytes_mk,true_or,true_and,if_true,h,hn]
theorem zig_len {n:Int} (h:i64W n):(uintL (zig n)).length≤10:=uintL_len10 (zig_lt h)
theorem run26 {bs s:List UInt8} {o:Own} (h:bs.length≤2000000) (hs:s.length≤2000000):laxS s26 [.sl 1 (bytesL bs) o,.str s] = some (laxR (bs ++ textL s)):=laxS_at (s26_at h hs)
theorem run25 {bs:List UInt8} {n:Int} {o:Own} (h:bs.length≤2000000) (hn:i64W n):laxS s25 [.sl 1 (bytesL bs) o,.int .i64 n] = some (laxR (bs ++ uintL (zig n))):=laxS_at (s25_at h hn)
theorem text_len {s:List UInt8} (h:s.length≤1900000):(textL s).length≤s.length + 10:=by
 have:=uintL_len10 (n:=s.length) (by omega)
 simp only [textL,List.length_append]; omega
theorem lbB_len {x:Lb} {n:Nat} (h:lbFit n x):(lbB x).length≤x.key.length + 30:=by
 have h1:=text_len (s:=x.key) (by have:=h.1; omega)
 have h2:=zig_len h.2.1
 have h3:=zig_len h.2.2
 simp only [lbB,List.length_append]; omega
theorem lax_own {l l':List UInt8} {o:Own} (h:l = l'):RetLax (.sl 1 (bytesL l) o) (laxR l'):=by
 subst h; exact lax_bytes
theorem p72 (m:Int) (bs:List UInt8) (x:Lb) (h:lbFit bs.length x):LaxOk PQ (GQ m) XA (tbl [(26,laxS s26),(25,laxS s25)]) (itbl []) nAn [] 72 [bytesA bs,.agg [.str x.key,.int .i64 x.event,.int .i64 x.know]] (laxR (bs ++ lbB x)):=by
 have h0:=h.1
 have h1:=text_len (s:=x.key) (by omega)
 have h2:=zig_len h.2.1
 constructor
 rw [w72]
 refine ⟨_,⟨run26 (o:=.no) (by omega) (by omega)⟩,_,⟨run25 (o:=.no) (by simp only [List.length_append]; omega) h.2.1⟩,_,⟨run25 (o:=.no) (by simp only [List.length_append]; omega) h.2.2⟩,lax_own ?_⟩
 simp only [lbB,List.append_assoc]
theorem o72 (m:Int):SpecOk PQ (GQ m) 72 s72:=lax_ofW (X:=XA) (m:=[]) [1] mixedQ (tbl_cons (laxS_ok (o26 m)) (tbl_cons (laxS_ok (o25 m)) tbl_nil)) itbl_nil fun args r h'=>by
 unfold s72 onBytes at h'
 split at h'
 ·split at h'
  ·rename_i hz
   split at h'
   ·rename_i bs hb
    dsimp only at h'
    split at h'
    ·rename_i hp
     injection h' with h'; subst h'
     simp only [wkL,wk1 hz hb]
     exact ⟨nAn,p72 m _ ⟨_,_,_⟩ hp⟩
    ·cases h'
   ·cases h'
  ·cases h'
 ·cases h'
theorem run72 {bs:List UInt8} {x:Lb} {o:Own} (h:lbFit bs.length x):s72 [.sl 1 (bytesL bs) o,.agg [.str x.key,.int .i64 x.event,.int .i64 x.know]] = some (laxR (bs ++ lbB x)):=by
 simp only [s72,onBytes,unBytes_mk,true_or,if_true]
 rw [if_pos h]
def tNo:List (FuncId × Spec):=[]
def xorI (a b:Int):Int:=IntKind.u64.wrap ((BitVec.ofInt IntKind.u64.bits a ^^^ BitVec.ofInt IntKind.u64.bits b).toNat:Int)
def xsh (k a:Int):Int:=xorI a (a.fdiv ((2:Int) ^ min (Int.toNat k) IntKind.u64.bits))
def keptMix (n:Int):Int:=xsh 31 (IntKind.u64.wrap (xsh 27 (IntKind.u64.wrap (xsh 30 n * 13787848793156543929)) * 10723151780598845931))
def keptOr (i:Nat) (acc c:Int):Int:=IntKind.u64.wrap ((BitVec.ofInt IntKind.u64.bits acc ||| BitVec.ofInt IntKind.u64.bits (IntKind.u64.wrap (IntKind.u64.wrap c * 2 ^ min (IntKind.i64.wrap (8 * (i:Int))).toNat IntKind.u64.bits))).toNat:Int)
def keptSip:Nat→Int→List UInt8→Int
 | _,acc,[]=>acc
 | i,acc,c :: l=>keptSip (i + 1) (keptOr i acc c.toNat) l
def keptNext (h acc:Int):Int:=keptMix (IntKind.u64.wrap (xorI h acc + 11400714819323198485))
def hashF:Nat→Int→List UInt8→Int
 | _,h,[]=>keptMix h
 | 0,h,_=>keptMix h
 | n + 1,h,c :: l=>hashF n (keptNext h (keptSip 0 0 ((c :: l).take 8))) ((c :: l).drop 8)
def hash0 (n:Int) (bs:List UInt8):Int:=xorI n (IntKind.u64.wrap (IntKind.u64.wrap (bs.length:Int) * 11400714819323198485))
def keptHash (n:Int) (bs:List UInt8):Int:=hashF bs.length (hash0 n bs) bs
def ckS (n:Int) (bs:List UInt8) (p:Int):Bool:=decide (IntKind.i64.wrap ((keptHash (IntKind.u64.wrap n) bs).tmod 1000) < p)
def s114:Spec:=fun args=>match args with
 | [.int .u64 n]=>some (.int .u64 (keptMix n),[])
 | _=>none
def s63:Spec:=fun args=>match args with
 | [.int .u64 n,.sl sz es _]=>if sz = 1∨es = [] then onBytes es fun bs=>if strOk bs then some (.int .u64 (keptHash n bs),[]) else none else none
 | _=>none
def s27:Spec:=fun args=>match args with
 | [.int .i64 n,.sl sz es _,.int .i64 p]=>if sz = 1∨es = [] then onBytes es fun bs=>if strOk bs then some (.bool (ckS n bs p),[]) else none else none
 | _=>none
def shU:Sh × Option TypeId:=(.val (.one (.int .u64)),none)
def XNe:Shapes:=fun f=>match f with
 | 114 | 63=>some shU
 | _=>none
structure H2 where
 h:Int
 l:List UInt8
 acc:Int
 i:Nat
def tH:List (FuncId × Spec):=[(114,s114)]
def tH2:List (FuncId × Spec):=[(63,s63)]
def a63 (H:Int) (N:Nat):Anns:=⟨fun k=>match k with
 | 2=>some { α:=H2,slots:=[1,4],nb:=0,vals:=fun x=>[.sl 1 (bytesL x.l) .no,.int .u64 x.h],sS:=fun _=>⟨[],[]⟩,I:=fun x=>x.l.length≤N∧∃ n,x.l.length≤n∧H = hashF n x.h x.l,μ:=fun x=>x.l.length }
 | 6=>some { α:=H2,slots:=[1,4,5,6,23,24,25],nb:=0,vals:=fun x=>[.sl 1 (bytesL x.l) .no,.int .u64 x.h,.int .i64 (min 8 (x.l.length:Int)),.int .u64 x.acc,.sl 1 (bytesL (x.l.take 8)) .no,.int .i64 (x.l.take 8).length,.int .i64 x.i],sS:=fun _=>⟨[],[]⟩,I:=fun x=>x.l.length≤N∧x.l ≠ []∧x.i≤(x.l.take 8).length∧∃ n,x.l.length≤n + 1∧H = hashF n (keptNext x.h (keptSip x.i x.acc ((x.l.take 8).drop x.i))) (x.l.drop 8),μ:=fun x=>8 - x.i,link:=some fun T y=>ValsAre [T.getD 1 (.tup [])] [.sl 1 (bytesL y.l) .no] }
 | _=>none,nA⟩
theorem w114 (m n:Int) (r:AV):(pureW PQ (GQ m) XNe (tbl tNo) (itbl []) nAn [] 114 [.int .u64 n] (r,[])) =
((0 : Int) ≤ (30 : Int) ∧
  (0:Int)≤(27:Int) ∧
    (0:Int)≤(31:Int) ∧
      RetIs
        (AV.int IntKind.u64
 (IntKind.u64.wrap
 (↑(BitVec.ofInt IntKind.u64.bits
 (IntKind.u64.wrap
 (IntKind.u64.wrap
 (↑(BitVec.ofInt IntKind.u64.bits
 (IntKind.u64.wrap
 (IntKind.u64.wrap
 (↑(BitVec.ofInt IntKind.u64.bits n ^^^
 BitVec.ofInt IntKind.u64.bits (n.fdiv ((2:Int) ^ min (Int.toNat (30:Int)) IntKind.u64.bits))).toNat :
 Int) *
 (13787848793156543929:Int))) ^^^
 BitVec.ofInt IntKind.u64.bits
 ((IntKind.u64.wrap
 (IntKind.u64.wrap
 (↑(BitVec.ofInt IntKind.u64.bits n ^^^
 BitVec.ofInt IntKind.u64.bits
 (n.fdiv ((2:Int) ^ min (Int.toNat (30:Int)) IntKind.u64.bits))).toNat :
 Int) *
 (13787848793156543929:Int))).fdiv
 ((2:Int) ^ min (Int.toNat (27:Int)) IntKind.u64.bits))).toNat :
 Int) *
 (10723151780598845931:Int))) ^^^
 BitVec.ofInt IntKind.u64.bits
 ((IntKind.u64.wrap
 (IntKind.u64.wrap
 (↑(BitVec.ofInt IntKind.u64.bits
 (IntKind.u64.wrap
 (IntKind.u64.wrap
 (↑(BitVec.ofInt IntKind.u64.bits n ^^^
 BitVec.ofInt IntKind.u64.bits
 (n.fdiv ((2:Int) ^ min (Int.toNat (30:Int)) IntKind.u64.bits))).toNat :
 Int) *
 (13787848793156543929:Int))) ^^^
 BitVec.ofInt IntKind.u64.bits
 ((IntKind.u64.wrap
 (IntKind.u64.wrap
 (↑(BitVec.ofInt IntKind.u64.bits n ^^^
 BitVec.ofInt IntKind.u64.bits
 (n.fdiv ((2:Int) ^ min (Int.toNat (30:Int)) IntKind.u64.bits))).toNat :
 Int) *
 (13787848793156543929:Int))).fdiv
 ((2:Int) ^ min (Int.toNat (27:Int)) IntKind.u64.bits))).toNat :
 Int) *
 (10723151780598845931:Int))).fdiv
 ((2:Int) ^ min (Int.toNat (31:Int)) IntKind.u64.bits))).toNat :
 Int)))
        [] (r,[])):=by kernel_rfl
theorem w63 (m n H:Int) (N:Nat) (bs:List UInt8) (r:AV):(pureW PQ (GQ m) XNe (tbl tH) (itbl []) (a63 H N) [] 63 [.int .u64 n,.sl 1 (bytesL bs) .no] (r,[])) =
((∃ (y:H2),
    ValsAre
        [AV.sl ((1:Nat)) (bytesL bs) Own.no,
 AV.int IntKind.u64
 (IntKind.u64.wrap
 (↑(BitVec.ofInt IntKind.u64.bits n ^^^
 BitVec.ofInt IntKind.u64.bits (IntKind.u64.wrap (IntKind.u64.wrap (↑(bytesL bs).length:Int) * (11400714819323198485:Int)))).toNat :
 Int))]
        [AV.sl ((1:Nat)) (bytesL y.l) Own.no,AV.int IntKind.u64 y.h] ∧
      StIs { boxes:=[],live:=[] } { boxes:=[],live:=[] }∧(y.l.length≤N∧∃ (n:Nat),y.l.length≤n∧H = hashF n y.h y.l)∧True) ∧
  ∀ (x:H2),
    (x.l.length≤N∧∃ (n:Nat),x.l.length≤n∧H = hashF n x.h x.l) →
      (decide ((↑(bytesL x.l).length:Int) > (0:Int)) = true →
 (0:Int)≤min (8:Int) (↑(bytesL x.l).length:Int) ∧
 ((0:Nat)≤(min (8:Int) (↑(bytesL x.l).length:Int)).toNat∧(min (8:Int) (↑(bytesL x.l).length:Int)).toNat≤(bytesL x.l).length) ∧
 ((1:Nat) = (1:Nat)∨bytesL x.l = []) ∧
 (∃ (y:H2),
 ValsAre
 [AV.sl ((1:Nat)) (bytesL x.l) Own.no,AV.int IntKind.u64 x.h,AV.int IntKind.i64 (min (8:Int) (↑(bytesL x.l).length:Int)),
 AV.int IntKind.u64 (0:Int),
 AV.sl ((1:Nat)) (List.drop ((0:Nat)) (List.take (min (8:Int) (↑(bytesL x.l).length:Int)).toNat (bytesL x.l))) Own.no,
 AV.int IntKind.i64
 (↑(List.drop ((0:Nat)) (List.take (min (8:Int) (↑(bytesL x.l).length:Int)).toNat (bytesL x.l))).length:Int),
 AV.int IntKind.i64 (0:Int)]
 [AV.sl ((1:Nat)) (bytesL y.l) Own.no,AV.int IntKind.u64 y.h,AV.int IntKind.i64 (min (8:Int) (↑y.l.length:Int)),
 AV.int IntKind.u64 y.acc,AV.sl ((1:Nat)) (bytesL (List.take ((8:Nat)) y.l)) Own.no,
 AV.int IntKind.i64 (↑(List.take ((8:Nat)) y.l).length:Int),AV.int IntKind.i64 (↑y.i:Int)] ∧
 StIs { boxes:=[],live:=[] } { boxes:=[],live:=[] } ∧
 (y.l.length≤N ∧
 y.l ≠ [] ∧
 y.i≤(List.take (8:Nat) y.l).length ∧
 ∃ (n:Nat),
 y.l.length≤n + (1:Nat) ∧
 H = hashF n (keptNext y.h (keptSip y.i y.acc (List.drop y.i (List.take (8:Nat) y.l)))) (List.drop (8:Nat) y.l)) ∧
 ValsAre [AV.sl ((1:Nat)) (bytesL x.l) Own.no] [AV.sl ((1:Nat)) (bytesL y.l) Own.no]) ∧
 ∀ (x_1:H2),
 (x_1.l.length≤N ∧
 x_1.l ≠ [] ∧
 x_1.i≤(List.take (8:Nat) x_1.l).length ∧
 ∃ (n:Nat),
 x_1.l.length≤n + (1:Nat) ∧
 H =
 hashF n (keptNext x_1.h (keptSip x_1.i x_1.acc (List.drop x_1.i (List.take (8:Nat) x_1.l)))) (List.drop (8:Nat) x_1.l)) →
 ValsAre [AV.sl ((1:Nat)) (bytesL x.l) Own.no] [AV.sl ((1:Nat)) (bytesL x_1.l) Own.no] →
 (decide ((↑x_1.i:Int) < (↑(List.take ((8:Nat)) x_1.l).length:Int)) = true →
 ((0:Int)≤(↑x_1.i:Int)∧(↑x_1.i:Int) < (↑(bytesL (List.take ((8:Nat)) x_1.l)).length:Int)) ∧
 ∃ (n:Int),
 takeAt PQ ((5:Nat)) (bytesL (List.take ((8:Nat)) x_1.l)) (↑x_1.i:Int).toNat ((0:Nat)) = some (AV.int IntKind.u8 n) ∧
 (0:Int)≤IntKind.i64.wrap ((8:Int) * (↑x_1.i:Int)) ∧
 ∃ (y:H2),
 ValsAre
 [AV.sl ((1:Nat)) (bytesL x_1.l) Own.no,AV.int IntKind.u64 x_1.h,
 AV.int IntKind.i64 (min (8:Int) (↑x_1.l.length:Int)),
 AV.int IntKind.u64
 (IntKind.u64.wrap
 (↑(BitVec.ofInt IntKind.u64.bits x_1.acc |||
 BitVec.ofInt IntKind.u64.bits
 (IntKind.u64.wrap
 (IntKind.u64.wrap n *
 (2:Int) ^ min (IntKind.i64.wrap ((8:Int) * (↑x_1.i:Int))).toNat IntKind.u64.bits))).toNat :
 Int)),
 AV.sl ((1:Nat)) (bytesL (List.take ((8:Nat)) x_1.l)) Own.no,
 AV.int IntKind.i64 (↑(List.take ((8:Nat)) x_1.l).length:Int),
 AV.int IntKind.i64 (IntKind.i64.wrap ((↑x_1.i:Int) + (1:Int)))]
 [AV.sl ((1:Nat)) (bytesL y.l) Own.no,AV.int IntKind.u64 y.h,
 AV.int IntKind.i64 (min (8:Int) (↑y.l.length:Int)),AV.int IntKind.u64 y.acc,
 AV.sl ((1:Nat)) (bytesL (List.take ((8:Nat)) y.l)) Own.no,
 AV.int IntKind.i64 (↑(List.take ((8:Nat)) y.l).length:Int),AV.int IntKind.i64 (↑y.i:Int)] ∧
 StIs { boxes:=[],live:=[] } { boxes:=[],live:=[] } ∧
 (y.l.length≤N ∧
 y.l ≠ [] ∧
 y.i≤(List.take (8:Nat) y.l).length ∧
 ∃ (n:Nat),
 y.l.length≤n + (1:Nat) ∧
 H =
 hashF n (keptNext y.h (keptSip y.i y.acc (List.drop y.i (List.take (8:Nat) y.l))))
 (List.drop (8:Nat) y.l)) ∧
 ValsAre [AV.sl ((1:Nat)) (bytesL x.l) Own.no] [AV.sl ((1:Nat)) (bytesL y.l) Own.no] ∧
 (8:Nat) - y.i < (8:Nat) - x_1.i) ∧
 (decide ((↑x_1.i:Int) < (↑(List.take ((8:Nat)) x_1.l).length:Int)) = false →
 ∃ (n:Int),
 CallIs
 (some
 (AV.int IntKind.u64
 (keptMix
 (IntKind.u64.wrap
 (IntKind.u64.wrap
 (↑((fun (x1 x2:BitVec IntKind.u64.bits)=>x1 ^^^ x2) (BitVec.ofInt IntKind.u64.bits x_1.h)
 (BitVec.ofInt IntKind.u64.bits x_1.acc)).toNat :
 Int) +
 (11400714819323198485:Int)))),
 []))
 (AV.int IntKind.u64 n) [] ∧
 (0:Int)≤min (8:Int) (↑x_1.l.length:Int) ∧
 ((min (8:Int) (↑x_1.l.length:Int)).toNat≤(bytesL x_1.l).length∧(bytesL x_1.l).length≤(bytesL x_1.l).length) ∧
 ((1:Nat) = (1:Nat)∨bytesL x_1.l = []) ∧
 ∃ (y:H2),
 ValsAre
 [AV.sl ((1:Nat))
 (List.drop (min (8:Int) (↑x_1.l.length:Int)).toNat (List.take (bytesL x_1.l).length (bytesL x_1.l))) Own.no,
 AV.int IntKind.u64 n]
 [AV.sl ((1:Nat)) (bytesL y.l) Own.no,AV.int IntKind.u64 y.h] ∧
 StIs { boxes:=[],live:=[] } { boxes:=[],live:=[] } ∧
 (y.l.length≤N∧∃ (n:Nat),y.l.length≤n∧H = hashF n y.h y.l)∧y.l.length < x.l.length)) ∧
        (decide ((↑(bytesL x.l).length:Int) > (0:Int)) = false →
 ∃ (n:Int),CallIs (some (AV.int IntKind.u64 (keptMix x.h),[])) (AV.int IntKind.u64 n) []∧RetIs (AV.int IntKind.u64 n) [] (r,[]))):=by kernel_rfl
theorem w27 (m n p:Int) (bs:List UInt8) (r:AV):(pureW PQ (GQ m) XNe (tbl tH2) (itbl []) nAn [] 27 [.int .i64 n,.sl 1 (bytesL bs) .no,.int .i64 p] (r,[])) =
(∃ (n_1:Int),
 CallIs (tbl [((63:Nat),s63)] ((63:Nat)) [AV.int IntKind.u64 (IntKind.u64.wrap n),AV.sl ((1:Nat)) (bytesL bs) Own.no]) (AV.int IntKind.u64 n_1) [] ∧
  (1000:Int) ≠ (0:Int) ∧
   (decide (IntKind.i64.wrap (n_1.tmod (1000:Int)) < p) = true→RetIs (AV.bool true) [] (r,[])) ∧
    (decide (IntKind.i64.wrap (n_1.tmod (1000:Int)) < p) = false→RetIs (AV.bool false) [] (r,[]))):=by kernel_rfl
theorem tK (k:Nat) (bs:List UInt8):List.drop 0 (List.take (min (k:Int) ((bytesL bs).length:Int)).toNat (bytesL bs)) = bytesL (bs.take k):=by
 rw [List.drop_zero,bytesL_length,show bytesL (bs.take k) = (bytesL bs).take k from List.map_take ..]
 rcases Nat.le_total k bs.length with h | h
 ·rw [show (min (k:Int) (bs.length:Int)).toNat = k by omega]
 ·rw [show (min (k:Int) (bs.length:Int)).toNat = bs.length by omega,List.take_of_length_le (by rw [bytesL_length]; omega),List.take_of_length_le (by rw [bytesL_length]; omega)]
theorem p114 (m n:Int):PureOk PQ (GQ m) XNe (tbl tNo) (itbl []) nAn [] 114 [.int .u64 n] (.int .u64 (keptMix n),[]):=by
 constructor
 rw [w114]
 exact ⟨by omega,by omega,by omega,⟨rfl⟩⟩
theorem o114 (m:Int):SpecOk PQ (GQ m) 114 s114:=spec_of (X:=XNe) (m:=[]) mixedQ tbl_nil itbl_nil fun args r h=>by
 unfold s114 at h
 split at h
 case h_2=>cases h
 injection h with h; subst h
 exact ⟨_,p114 m _⟩
theorem bytes_inj {a b:List UInt8} (h:bytesL a = bytesL b):a = b:=by
 have:=congrArg unBytes h
 rw [unBytes_mk,unBytes_mk] at this
 injection this
theorem p63 (m n:Int) (bs:List UInt8) (hb:strOk bs):PureOk PQ (GQ m) XNe (tbl tH) (itbl []) (a63 (keptHash n bs) bs.length) [] 63 [.int .u64 n,.sl 1 (bytesL bs) .no] (.int .u64 (keptHash n bs),[]):=by
 have hb':bs.length≤2000000:=hb
 constructor
 rw [w63]
 have t8:∀ l:List UInt8,List.drop 0 (List.take (min (8:Int) ((bytesL l).length:Int)).toNat (bytesL l)) = bytesL (l.take 8):=tK 8
 simp only [t8]
 refine ⟨⟨⟨hash0 n bs,bs,0,0⟩,⟨by rw [bytesL_length]; rfl⟩,⟨rfl⟩,⟨Nat.le_refl _,_,Nat.le_refl _,rfl⟩,trivial⟩,fun x ⟨hN,k,hk,hH⟩=>⟨fun hpos=>?_,fun hpos=>?_⟩⟩
 ·have hl:x.l ≠ []:=by
   intro e
   have:=of_decide_eq_true hpos
   rw [e] at this
   exact absurd this (by decide)
  have hle:x.l.length≤2000000:=by omega
  have hbl:(bytesL x.l).length = x.l.length:=bytesL_length
  obtain ⟨c,t,hc⟩:∃ c t,x.l = c :: t:=by
   cases h:x.l with
   | nil=>exact absurd h hl
   | cons c t=>exact ⟨c,t,rfl⟩
  refine ⟨by omega,⟨by omega,by omega⟩,.inl trivial,⟨⟨x.h,x.l,0,0⟩,⟨?_⟩,⟨rfl⟩,⟨hN,hl,Nat.zero_le _,?_⟩,⟨rfl⟩⟩,fun y ⟨hN',hl',hi,k',hk',hH'⟩ hlink=>⟨fun hlt=>?_,fun hge=>?_⟩⟩
  ·rw [hbl,bytesL_length]; rfl
  ·cases k with
   | zero=>rw [hc] at hk; simp at hk
   | succ k =>
    refine ⟨k,hk,?_⟩
    rw [hH,hc]; rfl
  ·have hlt':y.i < (y.l.take 8).length:=by have:=of_decide_eq_true hlt; omega
   have h8:(y.l.take 8).length≤8:=by rw [List.length_take]; omega
   have w8:IntKind.i64.wrap (8 * (y.i:Int)) = 8 * y.i:=by rw [wrapi64]; omega
   have w1:IntKind.i64.wrap ((y.i:Int) + 1) = ((y.i + 1:Nat):Int):=by rw [wrapi64]; omega
   refine ⟨⟨by omega,by rw [bytesL_length]; omega⟩,(y.l.take 8)[y.i].toNat,take_b hlt',by rw [w8]; omega,⟨y.h,y.l,keptOr y.i y.acc (y.l.take 8)[y.i].toNat,y.i + 1⟩,⟨by rw [w1]; rfl⟩,⟨rfl⟩,⟨hN',hl',by simp only; omega,k',hk',?_⟩,hlink,by simp only; omega⟩
   rw [hH',List.drop_eq_getElem_cons hlt']
   rfl
  ·have hlt':¬ y.i < (y.l.take 8).length:=by have:=of_decide_eq_false hge; omega
   have hyx:y.l = x.l:=by
    obtain ⟨h⟩:=hlink
    injection h with h
    injection h with _ h _
    exact (bytes_inj h).symm
   have hyl:(bytesL y.l).length = y.l.length:=bytesL_length
   refine ⟨_,⟨rfl⟩,by omega,⟨by omega,by omega⟩,.inl trivial,⟨keptNext y.h y.acc,y.l.drop 8,0,0⟩,⟨?_⟩,⟨rfl⟩,⟨by simp only [List.length_drop]; omega,k',by simp only [List.length_drop]; omega,?_⟩,?_⟩
   ·have e:List.drop (min (8:Int) (y.l.length:Int)).toNat (List.take (bytesL y.l).length (bytesL y.l)) = bytesL (y.l.drop 8):=by
     rw [List.take_length,show bytesL (y.l.drop 8) = (bytesL y.l).drop 8 from List.map_drop ..]
     rcases Nat.le_total 8 y.l.length with h | h
     ·rw [show (min (8:Int) (y.l.length:Int)).toNat = 8 by omega]
     ·rw [List.drop_eq_nil_of_le (by rw [hyl]; omega),List.drop_eq_nil_of_le (by rw [hyl]; omega)]
    rw [e]; rfl
   ·rw [hH',List.drop_eq_nil_of_le (by omega)]; rfl
   ·simp only [List.length_drop,hyx]
    rw [hc,List.length_cons]; omega
 ·have hl:x.l = []:=by
   have:=of_decide_eq_false hpos
   rw [bytesL_length] at this
   exact List.eq_nil_of_length_eq_zero (by omega)
  refine ⟨_,⟨rfl⟩,⟨?_⟩⟩
  rw [hH,hl]
  cases k <;> rfl
theorem p27 (m n p:Int) (bs:List UInt8) (hb:strOk bs):PureOk PQ (GQ m) XNe (tbl tH2) (itbl []) nAn [] 27 [.int .i64 n,.sl 1 (bytesL bs) .no,.int .i64 p] (.bool (ckS n bs p),[]):=by
 constructor
 rw [w27]
 have r:s63 [.int .u64 (IntKind.u64.wrap n),.sl 1 (bytesL bs) .no] = some (.int .u64 (keptHash (IntKind.u64.wrap n) bs),[]):=by
  simp only [s63,onBytes,unBytes_mk,true_or,if_true,hb]
 refine ⟨_,⟨r⟩,by omega,fun h=>⟨?_⟩,fun h=>⟨?_⟩⟩
 ·unfold ckS; rw [h]
 ·unfold ckS; rw [h]
theorem o63 (m:Int):SpecOk PQ (GQ m) 63 s63:=spec_ofW (X:=XNe) (m:=[]) [0,1] mixedQ (tbl_cons (o114 m) tbl_nil) itbl_nil fun args r h'=>by
 unfold s63 onBytes at h'
 split at h'
 case h_2=>cases h'
 split at h'
 case isFalse=>cases h'
 rename_i hz
 split at h'
 case h_2=>cases h'
 rename_i bs hb
 dsimp only at h'
 split at h'
 case isFalse=>cases h'
 rename_i hp
 injection h' with h'; subst h'
 show ∃ A,PureOk PQ (GQ m) XNe _ _ A [] 63 [.int .u64 _,wkA 1 (.sl _ _ _)] _
 rw [wk1 hz hb]
 exact ⟨_,p63 m _ _ hp⟩
theorem o27 (m:Int):SpecOk PQ (GQ m) 27 s27:=spec_ofW (X:=XNe) (m:=[]) [0,1] mixedQ (tbl_cons (o63 m) tbl_nil) itbl_nil fun args r h'=>by
 unfold s27 onBytes at h'
 split at h'
 case h_2=>cases h'
 split at h'
 case isFalse=>cases h'
 rename_i hz
 split at h'
 case h_2=>cases h'
 rename_i bs hb
 dsimp only at h'
 split at h'
 case isFalse=>cases h'
 rename_i hp
 injection h' with h'; subst h'
 show ∃ A,PureOk PQ (GQ m) XNe _ _ A [] 27 [.int .i64 _,wkA 1 (.sl _ _ _),.int .i64 _] _
 rw [wk1 hz hb]
 exact ⟨_,p27 m _ _ _ hp⟩
/-! what the law asks of it -/
theorem wrapu_in (n:Int):0≤IntKind.u64.wrap n∧IntKind.u64.wrap n < 18446744073709551616:=by
 rw [wrapu64]; omega
theorem hashF_in:∀ (k:Nat) (h:Int) (l:List UInt8),0≤hashF k h l
 | 0,_h,[]=>(wrapu_in _).1
 | 0,_h,_ :: _=>(wrapu_in _).1
 | _ + 1,_h,[]=>(wrapu_in _).1
 | k + 1,_h,_c :: _l=>hashF_in k _ _
theorem ck_mod (n:Int) (bs:List UInt8):∃ k:Int,0≤k∧k < 1000∧∀ p,ckS n bs p = decide (k < p):=by
 have h0:0≤keptHash (IntKind.u64.wrap n) bs:=hashF_in _ _ _
 have e:(keptHash (IntKind.u64.wrap n) bs).tmod 1000 = keptHash (IntKind.u64.wrap n) bs % 1000:=Int.tmod_eq_emod_of_nonneg h0
 refine ⟨keptHash (IntKind.u64.wrap n) bs % 1000,by omega,by omega,fun p=>?_⟩
 unfold ckS
 rw [e,wrapi64]
 congr 1
 apply propext
 omega
theorem ck_all (n:Int) (bs:List UInt8):ckS n bs 1000 = true:=by
 obtain ⟨k,h0,h1,h⟩:=ck_mod n bs
 rw [h]; exact decide_eq_true h1
theorem ck_none (n:Int) (bs:List UInt8):ckS n bs 0 = false:=by
 obtain ⟨k,h0,h1,h⟩:=ck_mod n bs
 rw [h]; exact decide_eq_false (by omega)
theorem ck_more {n p q:Int} {bs:List UInt8} (h:ckS n bs p = true) (hq:p≤q):ckS n bs q = true:=by
 obtain ⟨k,h0,h1,hk⟩:=ck_mod n bs
 rw [hk] at h ⊢
 have:=of_decide_eq_true h
 exact decide_eq_true (by omega)
end Go.Abs
namespace Go.Proofs.Q24
open Go.RowKit Go.Abs Go.Shelf
attribute [local go_sem] Oper.semAt_some
def Safe (Bl:Nat) (W:World) (b:Nat) (o:Obj):Prop:=W.heap[b]? = some o∧o.isCells = true∧b ≠ Bl∧∀ v,W.cell? ⟨Bl,0,none⟩ = some v→v.ownBlock ≠ some b
structure Kp (n₀ Bl:Nat) (W W':World):Prop where
 below:Go.RowKit.Below n₀ W W'
 safe:∀ b o,Safe Bl W b o→Safe Bl W' b o
theorem Kp.trans {n₀ Bl:Nat} {A B C:World} (h:Kp n₀ Bl A B) (k:Kp n₀ Bl B C):Kp n₀ Bl A C:=⟨h.below.trans k.below,fun b o hs=>k.safe b o (h.safe b o hs)⟩
theorem Safe.below {Bl:Nat} {W W':World} {b:Nat} {o:Obj} (h:Safe Bl W b o) (hb:Go.RowKit.Below W.heap.size W W') (hl:Bl < W.heap.size):Safe Bl W' b o:=by
 obtain ⟨h1,h2,h3,h4⟩:=h
 have hlt:b < W.heap.size:=(Array.getElem?_eq_some_iff.1 h1).1
 exact ⟨(hb.block b hlt).trans h1,h2,h3,fun v hv=>h4 v ((hb.cell (p:=⟨Bl,0,none⟩) hl).symm.trans hv)⟩
theorem Kp.of_below {n₀ Bl:Nat} {W W':World} (hb:Go.RowKit.Below W.heap.size W W') (hl:Bl < W.heap.size) (hn:n₀≤W.heap.size):Kp n₀ Bl W W':=⟨hb.mono hn,fun _b _o hs=>hs.below hb hl⟩
theorem Kp.putObj {n₀ Bl:Nat} {W:World} {l:Nat} {o:Obj} (o':Obj) (hl:W.heap[l]? = some o) (hc:o.isCells = false) (hn:n₀≤l) (hb:Bl ≠ l):Kp n₀ Bl W (W.putObj l o'):=by
 refine ⟨⟨rfl,rfl,rfl,by simp,fun k hk=>World.putObj_heap_other (by omega)⟩,fun b q ⟨h1,h2,h3,h4⟩=>?_⟩
 have hne:b ≠ l:=by
  rintro rfl
  rw [hl] at h1
  injection h1 with h1
  rw [← h1,hc] at h2
  cases h2
 refine ⟨(World.putObj_heap_other hne).trans h1,h2,h3,fun v hv=>h4 v ?_⟩
 rw [← hv]
 unfold World.cell?
 rw [World.putObj_heap_other hb]
set_option maxHeartbeats 1000000 in
theorem sampled_in (n:Nat) (c0 c1 c2 c3 c4:Value) (w:World) :
  CallsIn Fence.wide n PQ 61 #[.agg #[c0,c1,c2,c3,c4]] w fun e w'=>e = .returned (.func (.func 113) #[] #[.pointer (some ⟨w.heap.size,0,none⟩)])∧w' = w.alloc (.cells #[c0,c1,c2,c3,c4] 26):=by
 refine callsIn_wide.2 ?_
 go_enter Tryz.func61,Tryz.ntmps61
 go_wp2
 go_ret
 exact ⟨rfl,rfl⟩
end Go.Proofs.Q24
namespace Go.Abs
open Go.Proofs Go.RowKit Go.Proofs.Q24
theorem spec_calls {P:Program} {G:Glob} {E:Env} {w:World} {f:FuncId} {s:Spec} (hs:SpecOk P G f s) (hg:goodFn P f) {args:List AV} {r:AV} {lv:List (Nat × TypeId)} (h:s args = some (r,lv)) {vs:Array Value} (hI:∀ b o,E.I b o→b < w.heap.size) (hG:GlobOk G E w) (hn:vs.size = args.length)
  (hv:∀ (i:Nat) (c:AV) (v:Value),args[i]? = some c→vs[i]? = some v→Rep E w c v) (hcl:∀ c ∈ args,c.closed1 = true):Calls P f vs w fun e w'=>∃ v,e = .returned v∧Res P E w w' r lv v:=by
 have hc:=hs f args r lv (by simp only [if_true]; exact h) E w vs hI hG hn hv hcl
 rcases hc with ⟨_,hc⟩ | ⟨v,w',hrun,_⟩
 ·exact hc
 ·rw [run_callFunc hg] at hrun
  cases hrun
def envI (I:Nat→Nat→Prop):Env:=⟨I,fun _=>none,fun _ _ _=>False⟩
def LbsAt (w:World) (b off:Nat) (l:List Lb):Prop:=∀ (i:Nat) (hi:i < l.length) (c:Nat),c < 3→w.cell? ⟨b,off + i * 3 + c,none⟩ = some ((encLb l[i])[c]!)
theorem le_env {I:Nat→Nat→Prop} {n:Nat} {w w':World} (hI:∀ b o,I b o→b < n) (hb:Go.RowKit.Below n w w'):Env.Le (envI I) (envI I) w w':=
 ⟨fun b o hi=>⟨hi,hb.cell (p:=⟨b,o,none⟩) (hI b o hi)⟩,fun _ _ h=>h,fun _ _ _ h=>h,fun _ _ h=>(nomatch h)⟩
variable (m : Int) (I : Nat → Nat → Prop) (n : Nat) (w : World)
theorem c21 (l:List Lb) (hl:l.length≤2000000) (v:Value) (hI:∀ b o,I b o→b < n) (hn:n≤w.heap.size) (hG:GlobOk (GQ m) (envI I) w) (hv:Rep (envI I) w (.sl 3 (lbsL l) .no) v) :
  Calls PQ 21 #[v] w fun e w'=>∃ A cap,e = .returned (.slice A (srtU l).length cap)∧Go.RowKit.Below w.heap.size w w'∧((srtU l).length = 0∨∃ b off,A = some ⟨b,off,none⟩∧(b < n∨w.heap.size≤b)∧LbsAt w' b off (srtU l)):=by
 refine (spec_calls (o21 m) (goodQ (by kernel_rfl)) (run21 hl) (E:=envI I) (fun b o h=>by have:=hI b o h; omega) hG rfl (fun i c v' hi hv'=>?_) (fun c hc=>by simp only [List.mem_cons,List.not_mem_nil,or_false] at hc; subst hc; rfl)).mono ?_
 ·match i,hi with
  | 0,hi=>simp at hi hv'; subst hi; subst hv'; exact hv
  | i + 1,hi=>simp at hi
 ·rintro e w' ⟨v',rfl,I',h1,h2,hb,hr⟩
  rcases hr with ⟨_,hr⟩ | ⟨_,_,_,_,_,hlv,_⟩
  ·have hr:=hr (fun _=>none) (fun _ _ _=>False)
   generalize hes:lbsL (srtU l) = es at hr
   cases hr with | sl _ _ _ A cap u hcap hmax hA hsz hcl ho hq h1' =>
   have hlen:es.length = (srtU l).length:=by rw [← hes]; exact List.length_map _
   refine ⟨A,cap,by rw [hlen],hb,?_⟩
   rcases hA with hA | ⟨b,off,rfl,hA⟩
   ·exact .inl (by rw [← hlen,hA]; rfl)
   ·by_cases h0:(srtU l).length = 0
    ·exact .inl h0
    ·right
     have hcell:∀ (i:Nat) (hi:i < (srtU l).length) (c:Nat),c < 3→I' b (off + i * 3 + c)∧w'.cell? ⟨b,off + i * 3 + c,none⟩ = some ((encLb (srtU l)[i])[c]!):=fun i hi c hc=>by
      have he:es[i]? = some (lbA (srtU l)[i]):=by rw [← hes]; simp [hi]
      obtain ⟨cv,hcv,_⟩:=enc_rep (E:=envI I) (w:=w) (srtU l)[i] c hc
      obtain ⟨k1,k2⟩:=hA i _ c cv he hcv
      refine ⟨k1,?_⟩
      rw [k2,lb_cell hcv (hq i _ c cv he hcv)]
     refine ⟨b,off,rfl,?_,fun i hi c hc=>(hcell i hi c hc).2⟩
     rcases h2 b _ (hcell 0 (by omega) 0 (by omega)).1 with h | h
     ·exact .inl (hI b _ h)
     ·exact .inr h.1
  ·cases hlv
theorem c72 (x:Lb) (hx:lbFit 0 x) (hI:∀ b o,I b o→b < n) (hn:n≤w.heap.size) (hG:GlobOk (GQ m) (envI I) w) :
  Calls PQ 72 #[.slice none 0 0,.agg (encLb x).toArray] w fun e w'=>∃ v I',e = .returned v∧Go.RowKit.Below w.heap.size w w'∧(∀ b o,I' b o→b < w'.heap.size)∧GlobOk (GQ m) (envI I') w'∧Rep (envI I') w' (bytesA (lbB x)) v:=by
 refine (spec_calls (o72 m) (goodQ (by kernel_rfl)) (run72 (bs:=[]) (x:=x) (o:=.no) hx) (E:=envI I) (fun b o h=>by have:=hI b o h; omega) hG rfl (fun i c v' hi hv'=>?_) (fun c hc=>by simp only [List.mem_cons,List.not_mem_nil,or_false] at hc; rcases hc with rfl | rfl <;> rfl)).mono ?_
 ·match i,hi with
  | 0,hi =>
   simp at hi hv'; subst hi; subst hv'
   exact .sl 1 [] .no none 0 (fun _ _=>.bool true) (Nat.le_refl _) (Nat.zero_le _) (.inl rfl) (by simp) (by simp) trivial (by simp) (fun _ _=>rfl)
  | 1,hi =>
   simp at hi hv'; subst hi; subst hv'
   refine .agg _ _ rfl (fun i v hv=>enc_one x v ?_) (fun i c v hi hv=>?_)
   ·have:=List.mem_of_getElem? (show (encLb x)[i]? = some v by simpa using hv)
    exact this
   ·match i,hi with
    | 0,hi=>simp [encLb] at hi hv; subst hi; subst hv; exact .str _ _ rfl
    | 1,hi=>simp [encLb] at hi hv; subst hi; subst hv; exact .int _ _
    | 2,hi=>simp [encLb] at hi hv; subst hi; subst hv; exact .int _ _
    | i + 3,hi=>simp at hi
  | i + 2,hi=>simp at hi
 ·rintro e w' ⟨v',rfl,I',h1,h2,hb,hr⟩
  rcases hr with ⟨_,hr⟩ | ⟨_,_,_,_,_,hlv,_⟩
  ·refine ⟨v',I',rfl,hb,fun b o h=>?_,?_,hr _ _⟩
   ·rcases h2 b o h with h | h
    ·have:=hI b o h; have:=hb.size; omega
    ·exact h.2
   ·refine hG.le ⟨fun b o hi=>⟨h1 b o hi,hb.cell (p:=⟨b,o,none⟩) (Nat.lt_of_lt_of_le (hI b o hi) hn)⟩,fun _ _ h=>h,fun _ _ _ h=>h,fun _ _ h=>(nomatch h)⟩
  ·cases hlv
theorem c27 (sd pm:Int) (bs:List UInt8) (hbs:strOk bs) (v:Value) (hI:∀ b o,I b o→b < w.heap.size) (hG:GlobOk (GQ m) (envI I) w) (hv:Rep (envI I) w (bytesA bs) v) :
  Calls PQ 27 #[.int .i64 sd,v,.int .i64 pm] w fun e w'=>e = .returned (.bool (ckS sd bs pm))∧Go.RowKit.Below w.heap.size w w':=by
 have hs:s27 [.int .i64 sd,bytesA bs,.int .i64 pm] = some (.bool (ckS sd bs pm),[]):=by
  show (if 1 = 1∨bytesL bs = [] then onBytes (bytesL bs) _ else none) = _
  simp only [true_or,if_true,onBytes,unBytes_mk,hbs]
 refine (spec_calls (o27 m) (goodQ (by kernel_rfl)) hs (E:=envI I) hI hG rfl (fun i c v' hi hv'=>?_) (fun c hc=>by simp only [List.mem_cons,List.not_mem_nil,or_false] at hc; rcases hc with rfl | rfl | rfl <;> rfl)).mono ?_
 ·match i,hi with
  | 0,hi=>simp at hi hv'; subst hi; subst hv'; exact .int _ _
  | 1,hi=>simp at hi hv'; subst hi; subst hv'; exact hv
  | 2,hi=>simp at hi hv'; subst hi; subst hv'; exact .int _ _
  | i + 3,hi=>simp at hi
 ·rintro e w' ⟨v',rfl,I',h1,h2,hb,hr⟩
  rcases hr with ⟨_,hr⟩ | ⟨_,_,_,_,_,hlv,_⟩
  ·have:=rep_bool (hr (fun _=>none) (fun _ _ _=>False))
   subst this
   exact ⟨rfl,hb⟩
  ·cases hlv
end Go.Abs
namespace Go.Abs
open Go.Proofs
theorem comp_mem:∀ (l acc:List Lb) (x:Lb),x ∈ l.foldl stepC acc→x ∈ acc∨x ∈ l
 | [],acc,x,h=>.inl h
 | y :: l,acc,x,h=>by
  rcases comp_mem l _ x h with h | h
  ·unfold stepC at h
   split at h
   ·exact .inl h
   ·rcases List.mem_append.1 h with h | h
    ·exact .inl h
    ·rw [List.mem_singleton.1 h]; exact .inr List.mem_cons_self
  ·exact .inr (List.mem_cons_of_mem _ h)
theorem srtU_mem {l:List Lb} {x:Lb} (h:x ∈ srtU l):x ∈ l:=by
 rcases comp_mem _ [] x h with h | h
 ·cases h
 ·exact (List.mem_mergeSort).1 h
theorem LbsAt.keep {n₀ Bl b off:Nat} {W W':World} {l:List Lb} (h:LbsAt W b off l) (hb:b < n₀∨∃ o,Q24.Safe Bl W b o) (hK:Q24.Kp n₀ Bl W W'):(b < n₀∨∃ o,Q24.Safe Bl W' b o)∧LbsAt W' b off l:=by
 rcases hb with hb | ⟨o,hb⟩
 ·exact ⟨.inl hb,fun i hi c hc=>(hK.below.cell (p:=⟨b,_,none⟩) hb).trans (h i hi c hc)⟩
 ·have hb':=hK.safe b o hb
  refine ⟨.inr ⟨o,hb'⟩,fun i hi c hc=>?_⟩
  rw [← h i hi c hc]
  exact World.cell?_of_block (hb'.1.trans hb.1.symm)
def ckB (r:Rq) (x:Lb):Bool:=ckS r.seed (lbB x) r.permille
def smpL (r:Rq):List Lb:=(srtU r.labels).filter (ckB r)
end Go.Abs
namespace Go.Proofs.Q24
open Go.RowKit Go.Abs Go.Shelf
attribute [local go_sem] Oper.semAt_some
def findOps (id:Nat):Code→Option (Array Oper)
 | .region i ops _=>if i = id then some ops else none
 | .seq a b=>(findOps id a).orElse fun _=>findOps id b
 | .cond _ a b=>(findOps id a).orElse fun _=>findOps id b
 | .block _ a=>findOps id a
 | .loop a=>findOps id a
 | _=>none
def A113 (l B1 T b off N cap k:Nat) (ls:Value) (x:Lb) (c:Nat→Value) (q:Bool):Act:={ tmps:=#[.func (.yield l) #[] #[],.pointer (some ⟨B1,0,none⟩),undef,undef,.pointer (some ⟨T,0,none⟩),.pointer (some ⟨B1,2,none⟩),ls,.slice (some ⟨b,off,none⟩) N cap,.int .i64 N,.int .i64 k,.bool true,.pointer (some ⟨b,off + k * 3,none⟩),.agg #[.string ⟨x.key.toArray⟩,.int .i64 x.event,.int .i64 x.know],c 13,c 14,c 15,c 16,c 17,c 18,c 19,c 20,c 21,c 22,c 23,c 24,.bool q,c 26],defers:=[] }
def Post113 (n₀ l B1 Bl T b off N cap k:Nat) (ls:Value) (x:Lb) (r:Rq) (J Jx:List Lb→World→Prop) (pre:List Lb) (wr:World):Exit→Act→World→Prop
 | .normal,a,w=>∃ c q,a = A113 l B1 T b off N cap k ls x c q∧((ckB r x = true∧q = false∧J (pre ++ [x]) w∧Kp n₀ Bl wr w)∨(ckB r x = true∧q = true∧Jx (pre ++ [x]) w)∨(ckB r x = false∧q = false∧J pre w∧Kp n₀ Bl wr w))
 | _,_,_=>False
set_option maxRecDepth 100000 in
set_option maxHeartbeats 2000000 in
theorem leaf3 {ops:Array Oper} (hops:(Tryz.f113.body.bind (findOps 3)) = some ops) (n:Nat) (hn:3≤n) (m:Int) (n₀ l B1 Bl T k N cap b off:Nat) (r:Rq) (x:Lb) (ls:Value) (J Jx:List Lb→World→Prop)
  (hY:∀ pre x W,J pre W→pre.length < 2000000→YieldAt Fence.wide (n - 1) PQ l #[.agg (encLb x).toArray] W fun e W'=>(e = .returned (.bool true)∧J (pre ++ [x]) W'∧Kp n₀ Bl W W')∨(e = .returned (.bool false)∧Jx (pre ++ [x]) W'))
  (Wb:Nat) (hJ:AbidesFrom Wb J) (pre:List Lb) (hprl:pre.length < 2000000) (wr W2:World) (hbA:Go.RowKit.Below wr.heap.size wr W2) (_hs2:W2.heap.size = T + 1) (hTT:wr.heap.size = T) (hlk:Bl < wr.heap.size) (hnT:n₀≤T) (hJk:J pre wr)
  (y0:∀ W',Go.RowKit.Below (T + 1) W2 W'→W'.cell? ⟨T,0,none⟩ = some (.string ⟨x.key.toArray⟩)∧W'.cell? ⟨T,0 + 1,none⟩ = some (.int .i64 x.event)∧W'.cell? ⟨T,0 + 2,none⟩ = some (.int .i64 x.know)) (hbs:strOk (lbB x))
  (w3:World) (v:Value) (I':Nat→Nat→Prop) (hd3:Go.RowKit.Below (T + 1) W2 w3) (hz3:T + 1≤w3.heap.size) (hI3:∀ b o,I' b o→b < w3.heap.size) (hG3:GlobOk (GQ m) (envI I') w3) (hv3:Rep (envI I') w3 (bytesA (lbB x)) v) (u19 u20 u21 u22 u23 u24 u25 u26:Value) :
  wpAnyIn Fence.wide n PQ .any ops (Post113 n₀ l B1 Bl T b off N cap k ls x r J Jx pre wr) 7 #[true,true,true,true,true,true,false,false,false,false,false,false,false]
   { tmps:=#[.func (.yield l) #[] #[],.pointer (some ⟨B1,0,none⟩),undef,undef,.pointer (some ⟨T,0,none⟩),.pointer (some ⟨B1,2,none⟩),ls,.slice (some ⟨b,off,none⟩) N cap,.int .i64 N,.int .i64 k,.bool true,.pointer (some ⟨b,off + k * 3,none⟩),.agg #[.string ⟨x.key.toArray⟩,.int .i64 x.event,.int .i64 x.know],.pointer (some ⟨B1,3,none⟩),.int .i64 r.seed,.agg #[.string ⟨x.key.toArray⟩,.int .i64 x.event,.int .i64 x.know],v,.pointer (some ⟨B1,4,none⟩),.int .i64 r.permille,u19,u20,u21,u22,u23,u24,u25,u26],defers:=[] } w3:=by
 simp only [Tryz.f113,Option.bind_some,findOps,Option.orElse,Nat.reduceEqDiff,if_true,if_false,Option.some.injEq] at hops
 subst hops
 refine wpAnyIn_ready (rs:=[6]) (by kernel_rfl) (by simp) (AllReadyIn.cons rfl (fun K hK=>?_) AllReadyIn.nil)
 go_simp
 refine ⟨trivial,fun _=>(by omega),(callsIn_wide.2 (c27 m I' w3 r.seed r.permille (lbB x) hbs v hI3 hG3 hv3)).mono ?_⟩
 rintro e w4 ⟨rfl,hb4⟩
 have hd4:Go.RowKit.Below (T + 1) W2 w4:=hd3.trans (hb4.mono hz3)
 obtain ⟨y1,y2,y3⟩:=y0 w4 hd4
 refine hK _ _ ?_
 clear hK K
 have hb4r:Go.RowKit.Below wr.heap.size wr w4:=hbA.trans (hd4.mono (by omega))
 have J4:J pre w4:=hJ _ _ _ none hJk ⟨hb4r.os,hb4r.tape,hb4r.output,hb4r.size,fun q hq _=>hb4r.block q hq⟩ (fun r h=>by cases h)
 have hKa:Kp n₀ Bl wr w4:=Kp.of_below hb4r hlk (by omega)
 refine wpAnyIn_take (i:=7) (v:=?_) rfl rfl (by kernel_rfl) (by kernel_rfl) (by kernel_rfl) (fun _ _ _ h=>h) ⟨Or.inl ⟨by rfl,?_⟩,fun _=>rfl⟩ ?_
 rotate_left
 ·intro w; go_simp; try with_reducible rfl
 conv=>arg 9; simp [Act.put]
 cases hck:ckS r.seed (lbB x) r.permille with
 | true =>
  refine wpAnyIn_take (i:=8) (v:=?_) rfl rfl (by kernel_rfl) (by kernel_rfl) (by kernel_rfl) (fun _ _ _ h=>h) ⟨Or.inl ⟨by rfl,?_⟩,fun _=>rfl⟩ ?_
  rotate_left
  ·intro w; go_simp; try with_reducible rfl
  conv=>arg 9; simp [Act.put]
  refine wpAnyIn_ready (rs:=[9]) (by kernel_rfl) (by simp) (AllReadyIn.cons rfl (fun K hK=>?_) AllReadyIn.nil)
  go_simp
  refine hK _ _ ?_
  clear hK K
  obtain ⟨fn,tmps,assign,body,hy,hR⟩:=hY pre x w4 J4 hprl
  simp only [encLb] at hy
  refine wpAnyIn_ready (rs:=[10]) (by kernel_rfl) (by simp) (AllReadyIn.cons rfl (fun K hK=>?_) AllReadyIn.nil)
  go_simp
  refine ⟨fun _=>(by omega),hR.mono ?_⟩
  clear hR hy
  rintro e w5 (⟨rfl,hJ5,hK5⟩ | ⟨rfl,hJx5⟩)
  ·refine hK _ _ ?_
   clear hK K
   refine wpAnyIn_take (i:=11) (v:=?_) rfl rfl (by kernel_rfl) (by kernel_rfl) (by kernel_rfl) (fun _ _ _ h=>h) ⟨Or.inl ⟨by rfl,?_⟩,fun _=>rfl⟩ ?_
   rotate_left
   ·intro w; go_simp; try with_reducible rfl
   conv=>arg 9; simp [Act.put]
   refine wpAnyIn_take (i:=12) (v:=?_) rfl rfl (by kernel_rfl) (by kernel_rfl) (by kernel_rfl) (fun _ _ _ h=>h) ⟨Or.inl ⟨by rfl,?_⟩,fun _=>rfl⟩ ?_
   rotate_left
   ·intro w; go_simp; try with_reducible rfl
   conv=>arg 9; simp [Act.put]
   refine wpAnyIn_done (by kernel_rfl) ?_ _
   exact ⟨fun i=>match i with | 13=>_ | 14=>_ | 15=>_ | 16=>_ | 17=>_ | 18=>_ | 19=>_ | 20=>_ | 21=>_ | 22=>_ | 23=>_ | 24=>_ | _=>_,_,rfl,.inl ⟨hck,rfl,hJ5,hKa.trans hK5⟩⟩
  ·refine hK _ _ ?_
   clear hK K
   refine wpAnyIn_take (i:=11) (v:=?_) rfl rfl (by kernel_rfl) (by kernel_rfl) (by kernel_rfl) (fun _ _ _ h=>h) ⟨Or.inl ⟨by rfl,?_⟩,fun _=>rfl⟩ ?_
   rotate_left
   ·intro w; go_simp; try with_reducible rfl
   conv=>arg 9; simp [Act.put]
   refine wpAnyIn_take (i:=12) (v:=?_) rfl rfl (by kernel_rfl) (by kernel_rfl) (by kernel_rfl) (fun _ _ _ h=>h) ⟨Or.inl ⟨by rfl,?_⟩,fun _=>rfl⟩ ?_
   rotate_left
   ·intro w; go_simp; try with_reducible rfl
   conv=>arg 9; simp [Act.put]
   refine wpAnyIn_done (by kernel_rfl) ?_ _
   exact ⟨fun i=>match i with | 13=>_ | 14=>_ | 15=>_ | 16=>_ | 17=>_ | 18=>_ | 19=>_ | 20=>_ | 21=>_ | 22=>_ | 23=>_ | 24=>_ | _=>_,_,rfl,.inr (.inl ⟨hck,rfl,hJx5⟩)⟩
 | false =>
  refine wpAnyIn_take (i:=8) (v:=undef) rfl rfl (by kernel_rfl) (by kernel_rfl) (by kernel_rfl) (fun _ _ _ h=>h) ⟨Or.inr ⟨by rfl,rfl⟩,fun _=>rfl⟩ ?_
  conv=>arg 9; simp [Act.put]
  refine wpAnyIn_take (i:=9) (v:=undef) rfl rfl (by kernel_rfl) (by kernel_rfl) (by kernel_rfl) (fun _ _ _ h=>h) ⟨Or.inr ⟨by rfl,rfl⟩,fun _=>rfl⟩ ?_
  conv=>arg 9; simp [Act.put]
  refine wpAnyIn_take (i:=10) (v:=undef) rfl rfl (by kernel_rfl) (by kernel_rfl) (by kernel_rfl) (fun _ _ _ h=>h) ⟨Or.inr ⟨by rfl,rfl⟩,fun _=>rfl⟩ ?_
  conv=>arg 9; simp [Act.put]
  refine wpAnyIn_take (i:=11) (v:=undef) rfl rfl (by kernel_rfl) (by kernel_rfl) (by kernel_rfl) (fun _ _ _ h=>h) ⟨Or.inr ⟨by rfl,rfl⟩,fun _=>rfl⟩ ?_
  conv=>arg 9; simp [Act.put]
  refine wpAnyIn_take (i:=12) (v:=?_) rfl rfl (by kernel_rfl) (by kernel_rfl) (by kernel_rfl) (fun _ _ _ h=>h) ⟨Or.inl ⟨by rfl,?_⟩,fun _=>rfl⟩ ?_
  rotate_left
  ·intro w; go_simp; try with_reducible rfl
  conv=>arg 9; simp [Act.put]
  refine wpAnyIn_done (by kernel_rfl) ?_ _
  exact ⟨fun i=>match i with | 13=>_ | 14=>_ | 15=>_ | 16=>_ | 17=>_ | 18=>_ | 19=>_ | 20=>_ | 21=>_ | 22=>_ | 23=>_ | 24=>_ | _=>_,_,rfl,.inr (.inr ⟨hck,rfl,J4,hKa⟩)⟩
end Go.Proofs.Q24
namespace Go.Proofs.Q24
open Go.RowKit Go.Abs Go.Shelf
attribute [local go_sem] Oper.semAt_some
set_option maxRecDepth 100000 in
set_option maxHeartbeats 2000000 in
theorem reg3 {ops:Array Oper} (hops:(Tryz.f113.body.bind (findOps 3)) = some ops) (n:Nat) (hn:3≤n) (m:Int) (n₀ l B1 Bl T k N cap b off:Nat) (r:Rq) (x:Lb) (ls:Value) (J Jx:List Lb→World→Prop)
  (hY:∀ pre x W,J pre W→pre.length < 2000000→YieldAt Fence.wide (n - 1) PQ l #[.agg (encLb x).toArray] W fun e W'=>(e = .returned (.bool true)∧J (pre ++ [x]) W'∧Kp n₀ Bl W W')∨(e = .returned (.bool false)∧Jx (pre ++ [x]) W'))
  (Wb:Nat) (hJ:AbidesFrom Wb J) (pre:List Lb) (hprl:pre.length < 2000000) (wr W2:World) (hbA:Go.RowKit.Below wr.heap.size wr W2) (hs2:W2.heap.size = T + 1) (hTT:wr.heap.size = T) (hlk:Bl < wr.heap.size) (hnT:n₀≤T) (hJk:J pre wr)
  (y0:∀ W',Go.RowKit.Below (T + 1) W2 W'→W'.cell? ⟨T,0,none⟩ = some (.string ⟨x.key.toArray⟩)∧W'.cell? ⟨T,0 + 1,none⟩ = some (.int .i64 x.event)∧W'.cell? ⟨T,0 + 2,none⟩ = some (.int .i64 x.know)) (hbs:strOk (lbB x))
  (z0:∀ W',Go.RowKit.Below (T + 1) W2 W'→W'.cell? ⟨B1,3,none⟩ = some (.int .i64 r.seed)∧W'.cell? ⟨B1,4,none⟩ = some (.int .i64 r.permille))
  (h72:∀ W',Go.RowKit.Below (T + 1) W2 W'→Calls PQ 72 #[.slice none 0 0,.agg (encLb x).toArray] W' fun e w'=>∃ v I',e = .returned v∧Go.RowKit.Below W'.heap.size W' w'∧(∀ b o,I' b o→b < w'.heap.size)∧GlobOk (GQ m) (envI I') w'∧Rep (envI I') w' (bytesA (lbB x)) v)
  (u13 u14 u15 u16 u17 u18 u19 u20 u21 u22 u23 u24 u25 u26:Value) :
  (Code.region 3 ops true).wpIn Fence.wide n PQ (Post113 n₀ l B1 Bl T b off N cap k ls x r J Jx pre wr) { tmps:=#[.func (.yield l) #[] #[],.pointer (some ⟨B1,0,none⟩),undef,undef,.pointer (some ⟨T,0,none⟩),.pointer (some ⟨B1,2,none⟩),ls,.slice (some ⟨b,off,none⟩) N cap,.int .i64 N,.int .i64 k,.bool true,.pointer (some ⟨b,off + k * 3,none⟩),.agg #[.string ⟨x.key.toArray⟩,.int .i64 x.event,.int .i64 x.know],u13,u14,u15,u16,u17,u18,u19,u20,u21,u22,u23,u24,u25,u26],defers:=[] } W2:=by
 have hops':=hops
 simp only [Tryz.f113,Option.bind_some,findOps,Option.orElse,Nat.reduceEqDiff,if_true,if_false,Option.some.injEq] at hops'
 subst hops'
 have hd:Go.RowKit.Below (T + 1) W2 W2.drew:=(show Go.RowKit.Below W2.heap.size W2 W2.drew from (Go.RowKit.Below.refl _ W2).drew).mono (by omega)
 obtain ⟨y1,y2,y3⟩:=y0 _ hd
 obtain ⟨z1,z2⟩:=z0 _ hd
 have h72d:=h72 _ hd
 have hsd:W2.drew.heap.size = T + 1:=by rw [show W2.drew.heap.size = W2.heap.size from rfl,hs2]
 refine wpIn_region_any (by kernel_rfl) ?_
 refine wpAnyIn_take (i:=0) (v:=?_) rfl rfl (by kernel_rfl) (by kernel_rfl) (by kernel_rfl) (fun _ _ _ h=>h) ⟨Or.inl ⟨by rfl,?_⟩,fun _=>rfl⟩ ?_
 rotate_left
 ·intro w; go_simp; try with_reducible rfl
 conv=>arg 9; simp [Act.put]
 refine wpAnyIn_take (i:=4) (v:=?_) rfl rfl (by kernel_rfl) (by kernel_rfl) (by kernel_rfl) (fun _ _ _ h=>h) ⟨Or.inl ⟨by rfl,?_⟩,fun _=>rfl⟩ ?_
 rotate_left
 ·intro w; go_simp; try with_reducible rfl
 conv=>arg 9; simp [Act.put]
 change wpAnyIn _ _ _ _ _ _ _ _ _ W2.drew
 refine wpAnyIn_ready (rs:=[1,2,5]) (by kernel_rfl) (by simp) (AllReadyIn.cons rfl (fun K hK=>?s1) (AllReadyIn.cons rfl (fun K hK=>?s2) (AllReadyIn.cons rfl (fun K hK=>?s5) (AllReadyIn.nil))))
 case' s1 =>
  go_simp
  refine hK _ _ ?_
  clear hK K
  refine wpAnyIn_ready (rs:=[2,5]) (by kernel_rfl) (by simp) (AllReadyIn.cons rfl (fun K hK=>?s12) (AllReadyIn.cons rfl (fun K hK=>?s15) (AllReadyIn.nil)))
 case' s12 =>
  go_simp
  refine hK _ _ ?_
  clear hK K
  refine wpAnyIn_ready (rs:=[3,5]) (by kernel_rfl) (by simp) (AllReadyIn.cons rfl (fun K hK=>?s123) (AllReadyIn.cons rfl (fun K hK=>?s125) (AllReadyIn.nil)))
 case' s123 =>
  go_simp
  refine ⟨trivial,fun _=>(by omega),(callsIn_wide.2 h72d).mono ?_⟩
  rintro e w3 ⟨v,I',rfl,hb3,hI3,hG3,hv3⟩
  have hd3:Go.RowKit.Below (T + 1) W2 w3:=hd.trans (hb3.mono (by rw [hsd]; omega))
  have hz3:T + 1≤w3.heap.size:=by have:=hd3.size; omega
  obtain ⟨y1,y2,y3⟩:=y0 w3 hd3
  obtain ⟨z1,z2⟩:=z0 w3 hd3
  refine hK _ _ ?_
  clear hK K
  refine wpAnyIn_ready (rs:=[5]) (by kernel_rfl) (by simp) (AllReadyIn.cons rfl (fun K hK=>?_) AllReadyIn.nil)
  go_simp
  refine hK _ _ ?_
  clear hK K
  exact leaf3 hops n hn m n₀ l B1 Bl T k N cap b off r x ls J Jx hY Wb hJ pre hprl wr W2 hbA hs2 hTT hlk hnT hJk y0 hbs w3 v I' hd3 hz3 hI3 hG3 hv3 u19 u20 u21 u22 u23 u24 u25 u26
 case' s125 =>
  go_simp
  refine hK _ _ ?_
  clear hK K
  refine wpAnyIn_ready (rs:=[3]) (by kernel_rfl) (by simp) (AllReadyIn.cons rfl (fun K hK=>?_) AllReadyIn.nil)
  go_simp
  refine ⟨trivial,fun _=>(by omega),(callsIn_wide.2 h72d).mono ?_⟩
  rintro e w3 ⟨v,I',rfl,hb3,hI3,hG3,hv3⟩
  have hd3:Go.RowKit.Below (T + 1) W2 w3:=hd.trans (hb3.mono (by rw [hsd]; omega))
  have hz3:T + 1≤w3.heap.size:=by have:=hd3.size; omega
  obtain ⟨y1,y2,y3⟩:=y0 w3 hd3
  obtain ⟨z1,z2⟩:=z0 w3 hd3
  refine hK _ _ ?_
  clear hK K
  exact leaf3 hops n hn m n₀ l B1 Bl T k N cap b off r x ls J Jx hY Wb hJ pre hprl wr W2 hbA hs2 hTT hlk hnT hJk y0 hbs w3 v I' hd3 hz3 hI3 hG3 hv3 u19 u20 u21 u22 u23 u24 u25 u26
 case' s15 =>
  go_simp
  refine hK _ _ ?_
  clear hK K
  refine wpAnyIn_ready (rs:=[2]) (by kernel_rfl) (by simp) (AllReadyIn.cons rfl (fun K hK=>?_) AllReadyIn.nil)
  go_simp
  refine hK _ _ ?_
  clear hK K
  refine wpAnyIn_ready (rs:=[3]) (by kernel_rfl) (by simp) (AllReadyIn.cons rfl (fun K hK=>?_) AllReadyIn.nil)
  go_simp
  refine ⟨trivial,fun _=>(by omega),(callsIn_wide.2 h72d).mono ?_⟩
  rintro e w3 ⟨v,I',rfl,hb3,hI3,hG3,hv3⟩
  have hd3:Go.RowKit.Below (T + 1) W2 w3:=hd.trans (hb3.mono (by rw [hsd]; omega))
  have hz3:T + 1≤w3.heap.size:=by have:=hd3.size; omega
  obtain ⟨y1,y2,y3⟩:=y0 w3 hd3
  obtain ⟨z1,z2⟩:=z0 w3 hd3
  refine hK _ _ ?_
  clear hK K
  exact leaf3 hops n hn m n₀ l B1 Bl T k N cap b off r x ls J Jx hY Wb hJ pre hprl wr W2 hbA hs2 hTT hlk hnT hJk y0 hbs w3 v I' hd3 hz3 hI3 hG3 hv3 u19 u20 u21 u22 u23 u24 u25 u26
 case' s2 =>
  go_simp
  refine hK _ _ ?_
  clear hK K
  refine wpAnyIn_ready (rs:=[1,3,5]) (by kernel_rfl) (by simp) (AllReadyIn.cons rfl (fun K hK=>?s21) (AllReadyIn.cons rfl (fun K hK=>?s23) (AllReadyIn.cons rfl (fun K hK=>?s25) (AllReadyIn.nil))))
 case' s21 =>
  go_simp
  refine hK _ _ ?_
  clear hK K
  refine wpAnyIn_ready (rs:=[3,5]) (by kernel_rfl) (by simp) (AllReadyIn.cons rfl (fun K hK=>?s213) (AllReadyIn.cons rfl (fun K hK=>?s215) (AllReadyIn.nil)))
 case' s213 =>
  go_simp
  refine ⟨trivial,fun _=>(by omega),(callsIn_wide.2 h72d).mono ?_⟩
  rintro e w3 ⟨v,I',rfl,hb3,hI3,hG3,hv3⟩
  have hd3:Go.RowKit.Below (T + 1) W2 w3:=hd.trans (hb3.mono (by rw [hsd]; omega))
  have hz3:T + 1≤w3.heap.size:=by have:=hd3.size; omega
  obtain ⟨y1,y2,y3⟩:=y0 w3 hd3
  obtain ⟨z1,z2⟩:=z0 w3 hd3
  refine hK _ _ ?_
  clear hK K
  refine wpAnyIn_ready (rs:=[5]) (by kernel_rfl) (by simp) (AllReadyIn.cons rfl (fun K hK=>?_) AllReadyIn.nil)
  go_simp
  refine hK _ _ ?_
  clear hK K
  exact leaf3 hops n hn m n₀ l B1 Bl T k N cap b off r x ls J Jx hY Wb hJ pre hprl wr W2 hbA hs2 hTT hlk hnT hJk y0 hbs w3 v I' hd3 hz3 hI3 hG3 hv3 u19 u20 u21 u22 u23 u24 u25 u26
 case' s215 =>
  go_simp
  refine hK _ _ ?_
  clear hK K
  refine wpAnyIn_ready (rs:=[3]) (by kernel_rfl) (by simp) (AllReadyIn.cons rfl (fun K hK=>?_) AllReadyIn.nil)
  go_simp
  refine ⟨trivial,fun _=>(by omega),(callsIn_wide.2 h72d).mono ?_⟩
  rintro e w3 ⟨v,I',rfl,hb3,hI3,hG3,hv3⟩
  have hd3:Go.RowKit.Below (T + 1) W2 w3:=hd.trans (hb3.mono (by rw [hsd]; omega))
  have hz3:T + 1≤w3.heap.size:=by have:=hd3.size; omega
  obtain ⟨y1,y2,y3⟩:=y0 w3 hd3
  obtain ⟨z1,z2⟩:=z0 w3 hd3
  refine hK _ _ ?_
  clear hK K
  exact leaf3 hops n hn m n₀ l B1 Bl T k N cap b off r x ls J Jx hY Wb hJ pre hprl wr W2 hbA hs2 hTT hlk hnT hJk y0 hbs w3 v I' hd3 hz3 hI3 hG3 hv3 u19 u20 u21 u22 u23 u24 u25 u26
 case' s23 =>
  go_simp
  refine ⟨trivial,fun _=>(by omega),(callsIn_wide.2 h72d).mono ?_⟩
  rintro e w3 ⟨v,I',rfl,hb3,hI3,hG3,hv3⟩
  have hd3:Go.RowKit.Below (T + 1) W2 w3:=hd.trans (hb3.mono (by rw [hsd]; omega))
  have hz3:T + 1≤w3.heap.size:=by have:=hd3.size; omega
  obtain ⟨y1,y2,y3⟩:=y0 w3 hd3
  obtain ⟨z1,z2⟩:=z0 w3 hd3
  refine hK _ _ ?_
  clear hK K
  refine wpAnyIn_ready (rs:=[1,5]) (by kernel_rfl) (by simp) (AllReadyIn.cons rfl (fun K hK=>?s231) (AllReadyIn.cons rfl (fun K hK=>?s235) (AllReadyIn.nil)))
 case' s231 =>
  go_simp
  refine hK _ _ ?_
  clear hK K
  refine wpAnyIn_ready (rs:=[5]) (by kernel_rfl) (by simp) (AllReadyIn.cons rfl (fun K hK=>?_) AllReadyIn.nil)
  go_simp
  refine hK _ _ ?_
  clear hK K
  exact leaf3 hops n hn m n₀ l B1 Bl T k N cap b off r x ls J Jx hY Wb hJ pre hprl wr W2 hbA hs2 hTT hlk hnT hJk y0 hbs w3 v I' hd3 hz3 hI3 hG3 hv3 u19 u20 u21 u22 u23 u24 u25 u26
 case' s235 =>
  go_simp
  refine hK _ _ ?_
  clear hK K
  refine wpAnyIn_ready (rs:=[1]) (by kernel_rfl) (by simp) (AllReadyIn.cons rfl (fun K hK=>?_) AllReadyIn.nil)
  go_simp
  refine hK _ _ ?_
  clear hK K
  exact leaf3 hops n hn m n₀ l B1 Bl T k N cap b off r x ls J Jx hY Wb hJ pre hprl wr W2 hbA hs2 hTT hlk hnT hJk y0 hbs w3 v I' hd3 hz3 hI3 hG3 hv3 u19 u20 u21 u22 u23 u24 u25 u26
 case' s25 =>
  go_simp
  refine hK _ _ ?_
  clear hK K
  refine wpAnyIn_ready (rs:=[1,3]) (by kernel_rfl) (by simp) (AllReadyIn.cons rfl (fun K hK=>?s251) (AllReadyIn.cons rfl (fun K hK=>?s253) (AllReadyIn.nil)))
 case' s251 =>
  go_simp
  refine hK _ _ ?_
  clear hK K
  refine wpAnyIn_ready (rs:=[3]) (by kernel_rfl) (by simp) (AllReadyIn.cons rfl (fun K hK=>?_) AllReadyIn.nil)
  go_simp
  refine ⟨trivial,fun _=>(by omega),(callsIn_wide.2 h72d).mono ?_⟩
  rintro e w3 ⟨v,I',rfl,hb3,hI3,hG3,hv3⟩
  have hd3:Go.RowKit.Below (T + 1) W2 w3:=hd.trans (hb3.mono (by rw [hsd]; omega))
  have hz3:T + 1≤w3.heap.size:=by have:=hd3.size; omega
  obtain ⟨y1,y2,y3⟩:=y0 w3 hd3
  obtain ⟨z1,z2⟩:=z0 w3 hd3
  refine hK _ _ ?_
  clear hK K
  exact leaf3 hops n hn m n₀ l B1 Bl T k N cap b off r x ls J Jx hY Wb hJ pre hprl wr W2 hbA hs2 hTT hlk hnT hJk y0 hbs w3 v I' hd3 hz3 hI3 hG3 hv3 u19 u20 u21 u22 u23 u24 u25 u26
 case' s253 =>
  go_simp
  refine ⟨trivial,fun _=>(by omega),(callsIn_wide.2 h72d).mono ?_⟩
  rintro e w3 ⟨v,I',rfl,hb3,hI3,hG3,hv3⟩
  have hd3:Go.RowKit.Below (T + 1) W2 w3:=hd.trans (hb3.mono (by rw [hsd]; omega))
  have hz3:T + 1≤w3.heap.size:=by have:=hd3.size; omega
  obtain ⟨y1,y2,y3⟩:=y0 w3 hd3
  obtain ⟨z1,z2⟩:=z0 w3 hd3
  refine hK _ _ ?_
  clear hK K
  refine wpAnyIn_ready (rs:=[1]) (by kernel_rfl) (by simp) (AllReadyIn.cons rfl (fun K hK=>?_) AllReadyIn.nil)
  go_simp
  refine hK _ _ ?_
  clear hK K
  exact leaf3 hops n hn m n₀ l B1 Bl T k N cap b off r x ls J Jx hY Wb hJ pre hprl wr W2 hbA hs2 hTT hlk hnT hJk y0 hbs w3 v I' hd3 hz3 hI3 hG3 hv3 u19 u20 u21 u22 u23 u24 u25 u26
 case' s5 =>
  go_simp
  refine hK _ _ ?_
  clear hK K
  refine wpAnyIn_ready (rs:=[1,2]) (by kernel_rfl) (by simp) (AllReadyIn.cons rfl (fun K hK=>?s51) (AllReadyIn.cons rfl (fun K hK=>?s52) (AllReadyIn.nil)))
 case' s51 =>
  go_simp
  refine hK _ _ ?_
  clear hK K
  refine wpAnyIn_ready (rs:=[2]) (by kernel_rfl) (by simp) (AllReadyIn.cons rfl (fun K hK=>?_) AllReadyIn.nil)
  go_simp
  refine hK _ _ ?_
  clear hK K
  refine wpAnyIn_ready (rs:=[3]) (by kernel_rfl) (by simp) (AllReadyIn.cons rfl (fun K hK=>?_) AllReadyIn.nil)
  go_simp
  refine ⟨trivial,fun _=>(by omega),(callsIn_wide.2 h72d).mono ?_⟩
  rintro e w3 ⟨v,I',rfl,hb3,hI3,hG3,hv3⟩
  have hd3:Go.RowKit.Below (T + 1) W2 w3:=hd.trans (hb3.mono (by rw [hsd]; omega))
  have hz3:T + 1≤w3.heap.size:=by have:=hd3.size; omega
  obtain ⟨y1,y2,y3⟩:=y0 w3 hd3
  obtain ⟨z1,z2⟩:=z0 w3 hd3
  refine hK _ _ ?_
  clear hK K
  exact leaf3 hops n hn m n₀ l B1 Bl T k N cap b off r x ls J Jx hY Wb hJ pre hprl wr W2 hbA hs2 hTT hlk hnT hJk y0 hbs w3 v I' hd3 hz3 hI3 hG3 hv3 u19 u20 u21 u22 u23 u24 u25 u26
 case' s52 =>
  go_simp
  refine hK _ _ ?_
  clear hK K
  refine wpAnyIn_ready (rs:=[1,3]) (by kernel_rfl) (by simp) (AllReadyIn.cons rfl (fun K hK=>?s521) (AllReadyIn.cons rfl (fun K hK=>?s523) (AllReadyIn.nil)))
 case' s521 =>
  go_simp
  refine hK _ _ ?_
  clear hK K
  refine wpAnyIn_ready (rs:=[3]) (by kernel_rfl) (by simp) (AllReadyIn.cons rfl (fun K hK=>?_) AllReadyIn.nil)
  go_simp
  refine ⟨trivial,fun _=>(by omega),(callsIn_wide.2 h72d).mono ?_⟩
  rintro e w3 ⟨v,I',rfl,hb3,hI3,hG3,hv3⟩
  have hd3:Go.RowKit.Below (T + 1) W2 w3:=hd.trans (hb3.mono (by rw [hsd]; omega))
  have hz3:T + 1≤w3.heap.size:=by have:=hd3.size; omega
  obtain ⟨y1,y2,y3⟩:=y0 w3 hd3
  obtain ⟨z1,z2⟩:=z0 w3 hd3
  refine hK _ _ ?_
  clear hK K
  exact leaf3 hops n hn m n₀ l B1 Bl T k N cap b off r x ls J Jx hY Wb hJ pre hprl wr W2 hbA hs2 hTT hlk hnT hJk y0 hbs w3 v I' hd3 hz3 hI3 hG3 hv3 u19 u20 u21 u22 u23 u24 u25 u26
 case' s523 =>
  go_simp
  refine ⟨trivial,fun _=>(by omega),(callsIn_wide.2 h72d).mono ?_⟩
  rintro e w3 ⟨v,I',rfl,hb3,hI3,hG3,hv3⟩
  have hd3:Go.RowKit.Below (T + 1) W2 w3:=hd.trans (hb3.mono (by rw [hsd]; omega))
  have hz3:T + 1≤w3.heap.size:=by have:=hd3.size; omega
  obtain ⟨y1,y2,y3⟩:=y0 w3 hd3
  obtain ⟨z1,z2⟩:=z0 w3 hd3
  refine hK _ _ ?_
  clear hK K
  refine wpAnyIn_ready (rs:=[1]) (by kernel_rfl) (by simp) (AllReadyIn.cons rfl (fun K hK=>?_) AllReadyIn.nil)
  go_simp
  refine hK _ _ ?_
  clear hK K
  exact leaf3 hops n hn m n₀ l B1 Bl T k N cap b off r x ls J Jx hY Wb hJ pre hprl wr W2 hbA hs2 hTT hlk hnT hJk y0 hbs w3 v I' hd3 hz3 hI3 hG3 hv3 u19 u20 u21 u22 u23 u24 u25 u26
end Go.Proofs.Q24
namespace Go.Proofs.Q24
open Go.RowKit Go.Abs Go.Shelf
attribute [local go_sem] Oper.semAt_some
set_option maxRecDepth 100000 in
set_option maxHeartbeats 8000000 in
theorem smp_in (n:Nat) (hn:3≤n) (m:Int) (I:Nat→Nat→Prop) (n₀ l B1 Bl:Nat) (r:Rq) (c0 c1 ls:Value) (J Jx:List Lb→World→Prop)
  (hY:∀ pre x W,J pre W→pre.length < 2000000→YieldAt Fence.wide (n - 1) PQ l #[.agg (encLb x).toArray] W fun e W'=>(e = .returned (.bool true)∧J (pre ++ [x]) W'∧Kp n₀ Bl W W')∨(e = .returned (.bool false)∧Jx (pre ++ [x]) W'))
  (W:World) (hJ:AbidesFrom W.heap.size J) (h0:J [] W) (hB1:W.heap[B1]? = some (.cells #[c0,c1,ls,.int .i64 r.seed,.int .i64 r.permille] 26 (0,0))) (hBl:W.heap[Bl]? = some (.cells #[.slice none 0 0] 24 (0,0)))
  (hn1:n₀≤B1) (_hn2:n₀≤Bl) (hne:B1 ≠ Bl) (hI:∀ b o,I b o→b < n₀) (hG:GlobOk (GQ m) (envI I) W) (hls:Rep (envI I) W (.sl 3 (lbsL r.labels) .no) ls) (hlen:r.labels.length≤1900000) (hfit:∀ x ∈ r.labels,lbFit 0 x) :
  CallsIn Fence.wide n PQ 113 #[.func (.yield l) #[] #[],.pointer (some ⟨B1,0,none⟩)] W fun e W'=>(∃ v,e = .returned v)∧((∃ ys,ys = smpL r∧J ys W')∨(∃ pre,pre <+: smpL r∧Jx pre W')):=by
 have hlt1:B1 < W.heap.size:=(Array.getElem?_eq_some_iff.1 hB1).1
 have hlt2:Bl < W.heap.size:=(Array.getElem?_eq_some_iff.1 hBl).1
 have k2:W.cell? ⟨B1,2,none⟩ = some ls:=by unfold World.cell?; simp only [hB1]; rfl
 have hc21:=c21 m I n₀ W r.labels (by omega) ls hI (by omega) hG hls
 refine callsIn_of_wp Tryz.func113 rfl trivial ?_ rfl
 simp only [Tryz.ntmps113,List.size_toArray,List.length_cons,List.length_nil,Nat.reduceAdd,Nat.reduceSub,Array.replicate_succ,Array.replicate_zero,List.push_toArray,List.append_toArray,List.nil_append,List.cons_append]
 generalize hU:(srtU r.labels).length = N at hc21
 gi_wp2_with (refine ⟨trivial,fun _=>(by omega),(callsIn_wide.2 hc21).mono ?_⟩; rintro e W1 ⟨A,cap,rfl,hb1,hA⟩)
 have hW1:W.heap.size≤W1.heap.size:=hb1.size
 obtain ⟨o1,ho1⟩:∃ o1,Obj.cells #[c0,c1,ls,.int .i64 r.seed,.int .i64 r.permille] 26 (0,0) = o1:=⟨_,rfl⟩
 have hS1:Safe Bl W1 B1 o1:=⟨(hb1.block B1 hlt1).trans (ho1 ▸ hB1),by rw [← ho1]; rfl,hne,fun v hv=>by
  rw [hb1.cell (p:=⟨Bl,0,none⟩) hlt2] at hv
  unfold World.cell? at hv
  simp only [hBl] at hv
  have:v = .slice none 0 0:=by simpa using hv.symm
  subst this
  simp [Value.ownBlock]⟩
 obtain ⟨b,off,hA⟩:∃ b off,0 < N→A = some ⟨b,off,none⟩∧(b < n₀∨∃ o,Safe Bl W1 b o)∧LbsAt W1 b off (srtU r.labels):=by
  rcases hA with h | ⟨b,off,h1,h2,h3⟩
  ·exact ⟨0,0,fun h'=>by omega⟩
  ·refine ⟨b,off,fun hN=>⟨h1,h2.imp id fun hge=>?_,h3⟩⟩
   obtain ⟨o,q1,q2⟩:=cells_of_cell (h3 0 (by omega) 0 (by omega))
   refine ⟨o,q1,q2,by omega,fun v hv=>?_⟩
   rw [hb1.cell (p:=⟨Bl,0,none⟩) hlt2] at hv
   unfold World.cell? at hv
   simp only [hBl] at hv
   have:v = .slice none 0 0:=by simpa using hv.symm
   subst this
   simp [Value.ownBlock]
 have J1:J [] W1:=hJ _ _ _ none h0 ⟨hb1.os,hb1.tape,hb1.output,hb1.size,fun k hk _=>hb1.block k hk⟩ (fun r h=>by cases h)
 have hA1:=fun h=>(hA h).1
 have hA2:=fun h=>(hA h).2
 have hbn:Go.RowKit.Below n₀ W W1:=hb1.mono (by omega)
 clear hA hc21 hls k2 h0
 gi_loopw [9] (fun p wr=>∃ k:Nat,p = .int .i64 k∧k≤N∧J (((srtU r.labels).take k).filter (ckB r)) wr∧Safe Bl wr B1 o1∧Go.RowKit.Below n₀ W wr∧Bl < wr.heap.size∧W.heap.size≤wr.heap.size∧(0 < N→(b < n₀∨∃ o,Safe Bl wr b o)∧LbsAt wr b off (srtU r.labels)))
  (fun p _=>N - (intOf p).toNat)
 case atStart=>exact ⟨0,rfl,Nat.zero_le _,J1,hS1,hbn,by omega,hW1,hA2⟩
 case round =>
  obtain ⟨k,rfl,hk,hJk,hSk,hBk,hlk,hWk,hLk⟩:=hrel
  by_cases hkN:k < N
  ·obtain ⟨hsb,hL⟩:=hLk (by omega)
   obtain rfl:A = some ⟨b,off,none⟩:=hA1 (by omega)
   have hku:k < (srtU r.labels).length:=by omega
   obtain ⟨x,hx⟩:∃ x,(srtU r.labels)[k] = x:=⟨_,rfl⟩
   have x0:wr.cell? ⟨b,off + k * 3,none⟩ = some (.string ⟨x.key.toArray⟩):=by have:=hL k hku 0 (by omega); rw [hx] at this; exact this
   have x1:wr.cell? ⟨b,off + k * 3 + 1,none⟩ = some (.int .i64 x.event):=by have:=hL k hku 1 (by omega); rw [hx] at this; exact this
   have x2:wr.cell? ⟨b,off + k * 3 + 2,none⟩ = some (.int .i64 x.know):=by have:=hL k hku 2 (by omega); rw [hx] at this; exact this
   have hki:(k:Int) < N:=by omega
   have hms:N - ((k:Int) + 1).toNat < N - (k:Int).toNat:=by omega
   clear hA1 hA2 hLk
   have hxl:x ∈ r.labels:=by rw [← hx]; exact srtU_mem (List.getElem_mem hku)
   have hfx:=hfit x hxl
   have hbs:strOk (lbB x):=by
    have:=lbB_len hfx
    have:=hfx.1
    show (lbB x).length≤2000000
    omega
   gi_wp2
   obtain ⟨ob,hob⟩:∃ ob,Obj.cells #[Value.string { data:=x.key.toArray },Value.int IntKind.i64 x.event,Value.int IntKind.i64 x.know] 65 = ob:=⟨_,rfl⟩
   rw [hob]
   have hbA:Go.RowKit.Below wr.heap.size wr (wr.alloc ob):=(Go.RowKit.Below.refl _ wr).alloc (Nat.le_refl _) ob
   obtain ⟨W2,hW2⟩:∃ W2,wr.alloc ob = W2:=⟨_,rfl⟩
   have hT:W2.heap[wr.heap.size]? = some ob:=by rw [← hW2]; exact World.alloc_heap_new wr ob
   have hs2:W2.heap.size = wr.heap.size + 1:=by rw [← hW2]; simp
   rw [hW2] at hbA ⊢
   obtain ⟨T,hTT⟩:∃ T,wr.heap.size = T:=⟨_,rfl⟩
   rw [hTT] at hT ⊢
   have y0:∀ W',Go.RowKit.Below (T + 1) W2 W'→W'.cell? ⟨T,0,none⟩ = some (.string ⟨x.key.toArray⟩)∧W'.cell? ⟨T,0 + 1,none⟩ = some (.int .i64 x.event)∧W'.cell? ⟨T,0 + 2,none⟩ = some (.int .i64 x.know):=fun W' hb=>by
    have h:=(hb.block T (by omega)).trans hT
    unfold World.cell?
    simp [h,← hob]
   have z0:∀ W',Go.RowKit.Below (T + 1) W2 W'→W'.cell? ⟨B1,3,none⟩ = some (.int .i64 r.seed)∧W'.cell? ⟨B1,4,none⟩ = some (.int .i64 r.permille):=fun W' hb=>by
    have h:=(hb.block B1 (by omega)).trans ((hbA.block B1 (by omega)).trans hSk.1)
    unfold World.cell?
    simp [h,← ho1]
   have hB2:Go.RowKit.Below n₀ W W2:=hBk.trans (hbA.mono (by omega))
   have h72:∀ W',Go.RowKit.Below (T + 1) W2 W'→Calls PQ 72 #[.slice none 0 0,.agg (encLb x).toArray] W' fun e w'=>∃ v I',e = .returned v∧Go.RowKit.Below W'.heap.size W' w'∧(∀ b o,I' b o→b < w'.heap.size)∧GlobOk (GQ m) (envI I') w'∧Rep (envI I') w' (bytesA (lbB x)) v:=fun W' hb =>
    c72 m I n₀ W' x hfx hI (by have:=hb.size; omega) (hG.le (le_env hI (hB2.trans (hb.mono (by omega)))))
   have hd:Go.RowKit.Below (T + 1) W2 W2.drew:=(Go.RowKit.Below.refl _ W2).drew
   obtain ⟨y1,y2,y3⟩:=y0 _ hd
   obtain ⟨z1,z2⟩:=z0 _ hd
   obtain ⟨pre,hpr⟩:∃ pre,((srtU r.labels).take k).filter (ckB r) = pre:=⟨_,rfl⟩
   have hstep:((srtU r.labels).take (k + 1)).filter (ckB r) = if ckB r x = true then pre ++ [x] else pre:=by
    rw [List.take_succ_eq_append_getElem hku,List.filter_append,hx,hpr]
    by_cases h:ckB r x = true
    ·rw [if_pos h,List.filter_cons_of_pos h]; rfl
    ·rw [if_neg h,List.filter_cons_of_neg h]; simp
   have hpre:((srtU r.labels).take (k + 1)).filter (ckB r) <+: smpL r:=by
    refine ⟨((srtU r.labels).drop (k + 1)).filter (ckB r),?_⟩
    rw [← List.filter_append,List.take_append_drop]; rfl
   have hprl:pre.length < 2000000:=by
    have:=List.length_filter_le (ckB r) ((srtU r.labels).take k)
    rw [List.length_take,hpr] at this
    have:=srtU_len r.labels
    omega
   rw [hpr] at hJk
   have hN6:N≤1900000:=by rw [← hU]; exact Nat.le_trans (srtU_len _) hlen
   have hwk:wrap64 ((k:Int) + 1) = (k:Int) + 1:=by unfold wrap64; omega
   refine Go.wpIn_mono (reg3 rfl n hn m n₀ l B1 Bl T k N cap b off r x ls J Jx hY W.heap.size hJ pre hprl wr W2 hbA (by omega) hTT hlk (by omega) hJk y0 hbs z0 h72 _ _ _ _ _ _ _ _ _ _ _ _ _ _) ?_
   have hfin:∀ w,Kp n₀ Bl wr w→J (((srtU r.labels).take (k + 1)).filter (ckB r)) w→∃ k':Nat,Value.int .i64 ((k:Int) + 1) = .int .i64 k'∧k'≤N∧J (((srtU r.labels).take k').filter (ckB r)) w∧Safe Bl w B1 o1∧Go.RowKit.Below n₀ W w∧Bl < w.heap.size∧W.heap.size≤w.heap.size∧(0 < N→(b < n₀∨∃ o,Safe Bl w b o)∧LbsAt w b off (srtU r.labels)):=fun w hKa hJ6=>by
    have hz5:=hKa.below.size
    exact ⟨k + 1,rfl,hkN,hJ6,hKa.safe _ _ hSk,hBk.trans hKa.below,by omega,by omega,fun _=>hL.keep hsb hKa⟩
   clear hY y0 z0 h72 hd y1 y2 y3 z1 z2 hJk hL hsb hSk hBk hbA hB2 hJ
   rintro (_ | _ | _ | _ | _ | _) a w h
   case normal =>
    obtain ⟨c,q,rfl,h⟩:=h
    rcases h with ⟨hck,rfl,hJ5,hKa⟩ | ⟨hck,rfl,hJx5⟩ | ⟨hck,rfl,hJ5,hKa⟩
    ·have hf:=hfin w hKa (by rw [hstep,if_pos hck]; exact hJ5)
     have HF:=Lib.hid (And.intro hf (And.intro hms hwk))
     clear hfin hJ5 hKa hf hms hwk hN6 hprl hstep hpre hpr hU hx x0 x1 x2 hki hxl hfx hbs hT hs2 hTT hlk hWk hlt1 hlt2 hlen hfit hG hI hne hn1 hBl hB1
     simp only [A113]
     gi_wp2
     obtain ⟨hf,hms,hwk⟩:=HF.out
     rw [hwk]
     exact ⟨hf,hms⟩
    ·have hpx:pre ++ [x] <+: smpL r:=by rw [hstep,if_pos hck] at hpre; exact hpre
     have HF:=Lib.hid (And.intro hpx hJx5)
     clear hfin hpx hJx5 hms hwk hN6 hprl hstep hpre hpr hU hx x0 x1 x2 hki hxl hfx hbs hT hs2 hTT hlk hWk hlt1 hlt2 hlen hfit hG hI hne hn1 hBl hB1
     simp only [A113]
     gi_wp2
     obtain ⟨hpx,hJx5⟩:=HF.out
     refine bodyPost_ret (results_none rfl _ _ _) rfl ?_
     exact ⟨⟨_,rfl⟩,.inr ⟨_,hpx,hJx5⟩⟩
    ·have hf:=hfin w hKa (by rw [hstep,if_neg (by rw [hck]; simp)]; exact hJ5)
     have HF:=Lib.hid (And.intro hf (And.intro hms hwk))
     clear hfin hJ5 hKa hf hms hwk hN6 hprl hstep hpre hpr hU hx x0 x1 x2 hki hxl hfx hbs hT hs2 hTT hlk hWk hlt1 hlt2 hlen hfit hG hI hne hn1 hBl hB1
     simp only [A113]
     gi_wp2
     obtain ⟨hf,hms,hwk⟩:=HF.out
     rw [hwk]
     exact ⟨hf,hms⟩
   all_goals exact h.elim
  ·have hkN':k = N:=by omega
   subst hkN'
   have hge:¬ ((k:Int) < k):=by omega
   gi_wp2
   go_end0
   have e:((srtU r.labels).take k).filter (ckB r) = smpL r:=by rw [List.take_of_length_le (by omega)]; rfl
   rw [e] at hJk
   exact ⟨⟨_,rfl⟩,.inl hJk⟩
end Go.Proofs.Q24
namespace Go.Proofs.Q24
open Go.RowKit Go.Abs Go.Shelf
attribute [local go_sem] Oper.semAt_some
theorem wpListIn_append_own_at {F:Fence} {n:Nat} {P:Program} (w:World) {ops:Array Oper} {rest:List Oper} {o:Oper} {a:Act} {Q:Exit→Act→World→Prop}
  (hg:o.guard = none) (s x:Operand) (t:TypeId) (hop:o.op = Op.call { callee:=Callee.builtin Builtin.append,args:=#[s,x],argTypes:=#[t,t] })
  (base:Nat) (e:TypeId) (i:TypeInfo) (z:Value) (size bytes:Nat) (h1:P.underlying t = some (.slice e)) (h2:P.info? e = some i) (h3:i.zero = some z) (h4:i.size = size) (h5:i.bytes = bytes) (h6:z.cells.size = size) (h7:0 < size)
  (v:Value) (k:Nat) (xs:List Value) (hs:a.eval s = v) (hown:w.ownsRow base e size v k xs) (ad:Addr) (m c:Nat) (news:List Value) (hx:a.eval x = .slice (some ad) m c) (hn:news.length = m * size)
  (hc:∀ j u,news[j]? = some u→w.cell? (ad.add j) = some u) (h1c:∀ u ∈ news,u.oneCell' = true) (b1:k + m≤maxLen) (b2:(k + m) * bytes≤140737488355328) (b3:base≤w.heap.size)
  (hK:∀ v' w',w'.ownsRow base e size v' (k + m) (xs ++ news)→w.grownBy w' v.ownBlock→(v'.ownBlock = v.ownBlock∨v'.ownBlock = some w.heap.size)→wpListIn F n P ops Q rest (a.put o.dst v') w') :
  wpListIn F n P ops Q (o :: rest) a w:=by
 refine wpListIn_plain hg fun K hK'=>?_
 obtain ⟨v',w',hrun,r1,r2,_,r3⟩:=run_append_own_at (P:=P) w base t o.type e i z size bytes h1 h2 h3 h4 h5 h6 h7 v k xs hown ad m c news hn hc h1c b1 b2 b3
 unfold Oper.wpIn
 refine ⟨?_,?_⟩
 ·simp [Oper.about,hop,resolve,Target.leads,Sem.run_pure]
 ·rw [Oper.semAt_plain F _ _ (by rw [hop]; intro c hc'; cases hc')]
  simp [execOp,hop,resolve,invoke,builtin,hs,hx,hrun,Result.andThen]
  exact hK' _ _ (hK v' w' r1 r2 r3)
theorem body_kp {W w1:World} {n₀ Bl:Nat} {v v':Value} {tmp:Obj} (hv:Boxed W Bl 24 v) (hgrow:(W.alloc tmp).grownBy w1 v.ownBlock) (hat:v'.ownBlock = v.ownBlock∨v'.ownBlock = some (W.alloc tmp).heap.size)
  (hv1:Boxed w1 Bl 24 v) (hb:Go.RowKit.Below n₀ W (w1.setCell ⟨Bl,0,none⟩ v')):Kp n₀ Bl W (w1.setCell ⟨Bl,0,none⟩ v'):=by
 refine ⟨hb,fun b o ⟨s1,s2,s3,s4⟩=>?_⟩
 have hlt:b < W.heap.size:=(Array.getElem?_eq_some_iff.1 s1).1
 have hvb:=s4 v hv.cell
 have e1:(W.alloc tmp).heap[b]? = some o:=(Below.heap_alloc W tmp b hlt).trans s1
 have e2:w1.heap[b]? = some o:=(hgrow.block b (by simp; omega) (fun h=>hvb h.symm)).trans e1
 have e3:(w1.setCell ⟨Bl,0,none⟩ v').heap[b]? = some o:=by
  simp only [World.setCell,Array.getElem?_modify]
  rw [if_neg (Ne.symm s3)]; exact e2
 refine ⟨e3,s2,s3,fun u hu=>?_⟩
 have hb2:(w1.setCell ⟨Bl,0,none⟩ v').cell? ⟨Bl,0,none⟩ = some v':=(hv1.set v').cell
 rw [hb2] at hu
 injection hu with hu
 subst hu
 rcases hat with h | h
 ·rw [h]; exact hvb
 ·rw [h]
  intro he
  injection he with he
  simp at he
  omega
def flatL (l:List Lb):List Value:=l.flatMap encLb
theorem flatL_snoc (l:List Lb) (x:Lb):flatL (l ++ [x]) = flatL l ++ encLb x:=by simp [flatL]
theorem smp_stops (n:Nat) (hn:3≤n) (m:Int) (I:Nat→Nat→Prop) (n₀ B1 Bl:Nat) (r:Rq) (c0 c1 ls:Value) (w:World)
  (hB1:w.heap[B1]? = some (.cells #[c0,c1,ls,.int .i64 r.seed,.int .i64 r.permille] 26 (0,0))) (hBl:w.heap[Bl]? = some (.cells #[.slice none 0 0] 24 (0,0)))
  (hn1:n₀≤B1) (hn2:n₀≤Bl) (hne:B1 ≠ Bl) (hI:∀ b o,I b o→b < n₀) (hG:GlobOk (GQ m) (envI I) w) (hls:Rep (envI I) w (.sl 3 (lbsL r.labels) .no) ls) (hlen:r.labels.length≤1900000) (hfit:∀ x ∈ r.labels,lbFit 0 x) :
  SeqStopsK Fence.wide n PQ 113 #[.pointer (some ⟨B1,0,none⟩)] (fun x:Lb=>#[.agg (encLb x).toArray]) (Kp n₀ Bl) (fun ys=>ys = smpL r) (fun pre=>pre <+: smpL r) 2000000 w:=fun l J Jx W hW hJ hJx hY h0=>by
 have hlt1:B1 < w.heap.size:=(Array.getElem?_eq_some_iff.1 hB1).1
 have hlt2:Bl < w.heap.size:=(Array.getElem?_eq_some_iff.1 hBl).1
 have hle:Env.Le (envI I) (envI I) w W:=le_env (fun b o h=>by have:=hI b o h; omega) hW
 exact smp_in n hn m I n₀ l B1 Bl r c0 c1 ls J Jx hY W hJ h0 ((hW.block B1 hlt1).trans hB1) ((hW.block Bl hlt2).trans hBl) hn1 hn2 hne hI (hG.le hle) (hls.le hle) hlen hfit
theorem underlying24':PQ.underlying 24 = some (.slice 65):=by kernel_rfl
theorem cells_new (W:World) (l:List Value) (t:TypeId) (j:Nat) (u:Value) (h:l[j]? = some u):(W.alloc (.cells l.toArray t)).cell? ((⟨W.heap.size,0,none⟩:Addr).add j) = some u:=by
 have e:=World.alloc_heap_new W (.cells l.toArray t)
 have hj:((⟨W.heap.size,0,none⟩:Addr).add j) = ⟨W.heap.size,j,none⟩:=by
  unfold Addr.add
  split <;> simp_all
 rw [hj]
 unfold World.cell?
 dsimp only
 rw [e]
 simpa using h
theorem res23 (w:World) (tm:Array Value) (B:Nat) (ad:Option Addr) (k cp:Nat) (hp:tm.getD 2 undef = .pointer (some ⟨B,0,none⟩)) (hc:w.cell? ⟨B,0,none⟩ = some (.slice ad k cp)):(results Tryz.f23 tm).run PQ w = .ok (.slice ad k cp) w:=by
 have hr:Tryz.f23.results = #[.cell 2 24]:=rfl
 have hp':tm[2]?.getD undef = .pointer (some ⟨B,0,none⟩):=by simpa using hp
 simp [results,hp',asAddr,go_sem,hc,loadVar]
theorem info65':(PQ.info? 65).map (fun i=>(i.zero,i.size,i.bytes)) = some (some (.agg #[.string ⟨#[]⟩,.int .i64 0,.int .i64 0]),3,32):=by kernel_rfl
set_option maxRecDepth 100000 in
set_option maxHeartbeats 4000000 in
theorem sample_in (n:Nat) (hn:5≤n) (m:Int) (I:Nat→Nat→Prop) (r:Rq) (c0 c1 ls:Value) (w:World) (hI:∀ b o,I b o→b < w.heap.size) (hG:GlobOk (GQ m) (envI I) w) (hls:Rep (envI I) w (.sl 3 (lbsL r.labels) .no) ls) (hlen:r.labels.length≤1900000) (hfit:∀ x ∈ r.labels,lbFit 0 x) :
    CallsIn Fence.wide n PQ 23 #[.agg #[c0,c1,ls,.int .i64 r.seed,.int .i64 r.permille]] w fun e W'=>∃ v,e = .returned v∧W'.ownsRow w.heap.size 65 3 v (smpL r).length (flatL (smpL r))∧Go.RowKit.Below w.heap.size w W':=by
  have h1:1≤n:=by omega
  obtain ⟨i0,hi,hz0,hz1,hz2⟩:=info_parts info65'
  refine callsIn_of_wp_marks Tryz.func23 rfl trivial ?_ rfl
  simp only [Tryz.ntmps23,List.size_toArray,List.length_cons,List.length_nil,Nat.reduceAdd,Nat.reduceSub,Array.replicate_succ,Array.replicate_zero,List.push_toArray,List.append_toArray,List.nil_append,List.cons_append]
  have HG:=Lib.hid hG
  have HL:=Lib.hid hls
  have HI:=Lib.hid hI
  have HF:=Lib.hid hfit
  clear hG hls hI hfit
  gi_wp2_with (refine ⟨trivial,(sampled_in _ _ _ _ _ _ _).mono ?_⟩; rintro e w' ⟨rfl,rfl⟩)
  obtain ⟨rr,hrr⟩:∃ rr,#[c0,c1,ls,Value.int .i64 r.seed,Value.int .i64 r.permille] = rr:=⟨_,rfl⟩
  have hBl0:((w.alloc (.cells rr 26)).alloc (.cells #[.slice none 0 0] 24)).heap[w.heap.size + 1]? = some (.cells #[.slice none 0 0] 24 (0,0)):=by
    have:=World.alloc_heap_new (w.alloc (.cells rr 26)) (.cells #[.slice none 0 0] 24); rwa [World.size_alloc] at this
  have hBl:(((w.alloc (.cells rr 26)).alloc (.cells #[.slice none 0 0] 24)).alloc (.cells rr 26)).heap[w.heap.size + 1]? = some (.cells #[.slice none 0 0] 24 (0,0)):=(Below.heap_alloc _ _ _ (by simp)).trans hBl0
  have hB1:(((w.alloc (.cells rr 26)).alloc (.cells #[.slice none 0 0] 24)).alloc (.cells rr 26)).heap[w.heap.size + 1 + 1]? = some (.cells rr 26 (0,0)):=by
    have:=World.alloc_heap_new ((w.alloc (.cells rr 26)).alloc (.cells #[.slice none 0 0] 24)) (.cells rr 26); rwa [World.size_alloc,World.size_alloc] at this
  have hB0:Go.RowKit.Below w.heap.size w (((w.alloc (.cells rr 26)).alloc (.cells #[.slice none 0 0] 24)).alloc (.cells rr 26)):=(((Below.refl _ w).alloc (Nat.le_refl _) _).alloc (by simp) _).alloc (by simp; omega) _
  have hsz:(((w.alloc (.cells rr 26)).alloc (.cells #[.slice none 0 0] 24)).alloc (.cells rr 26)).heap.size = w.heap.size + 3:=by simp
  rw [hrr]
  obtain ⟨W0,hW0⟩:∃ W0,((w.alloc (.cells rr 26)).alloc (.cells #[.slice none 0 0] 24)).alloc (.cells rr 26) = W0:=⟨_,rfl⟩
  rw [hW0] at hBl hB1 hB0 hsz ⊢
  clear hW0 hBl0
  have hle:Env.Le (envI I) (envI I) w W0:=le_env (fun b o h=>HI.out b o h) hB0
  refine wpIn_rangeFunc_ownH rfl h1 (gf:=113) (lb:=#[.pointer (some ⟨w.heap.size + 1 + 1,0,none⟩)]) rfl trivial (enters_of Tryz.func113 (by kernel_rfl) rfl)
    (smp_stops (n - 1) (by omega) m I w.heap.size (w.heap.size + 1 + 1) (w.heap.size + 1) r c0 c1 ls W0 (by rw [hrr]; exact hB1) hBl (by omega) (by omega) (by omega) HI.out (HG.out.le hle) (HL.out.le hle) hlen HF.out)
    Kp.trans (fun W l o o' h2 h3 h4 _=>Kp.putObj o' h3 h4 (by omega) (by omega)) (Below.refl _ _) (fun _=>rfl)
    (fun pre W=>(∃ v,Boxed W (w.heap.size + 1) 24 v∧W.ownsRow w.heap.size 65 3 v pre.length (flatL pre)∧True)∧Go.RowKit.Below w.heap.size w W)
    (fun _ _ _=>False)
    (OwnFrom.and (Own.from (holdsRow_own w.heap.size (w.heap.size + 1) 24 65 3 (fun pre:List Lb=>pre.length) (fun pre=>flatL pre) (fun _ _=>True)) _) (ownFrom_below (Nat.le_refl _) (by omega)))
    (fun _ _ _ _ _ hs _ _=>hs)
    ⟨⟨_,hBl,World.ownsRow_nil _ _ _ _,trivial⟩,hB0⟩
    (fun x a' W=>∃ Bx,w.heap.size + 1 < Bx∧W.heap[Bx]? = some (.cells (encLb x).toArray 65 (0,0))∧a' = { tmps:=#[.agg rr,.pointer (some ⟨w.heap.size,0,none⟩),.pointer (some ⟨w.heap.size + 1,0,none⟩),.pointer (some ⟨Bx,0,none⟩),.agg rr,.func (.func 113) #[] #[.pointer (some ⟨w.heap.size + 1 + 1,0,none⟩)],.agg (encLb x).toArray,undef,undef,undef,undef,undef],defers:=[] })
    (fun x a' _ X Y row hs hg hr=>by
      obtain ⟨Bx,h2,h3,h4⟩:=hs
      refine ⟨Bx,h2,(hg.block Bx (Array.getElem?_eq_some_iff.1 h3).1 (fun e=>?_)).trans h3,h4⟩
      obtain ⟨-,o,ho,hc⟩:=hr Bx e.symm
      rw [h3] at ho
      injection ho with ho
      rw [← ho] at hc
      cases hc)
    ?assign ?body ?done ?stop
  case assign =>
    rintro l pre x W K ⟨⟨v,hv,hrow,-⟩,hB⟩ hK
    have hKh:=Lib.hid hK
    clear hK
    simp only [encLb] at hKh ⊢
    gi_wp2
    have hlt:w.heap.size + 1 < W.heap.size:=hv.lt
    exact hKh.out _ _ ((KeepsOthers.alloc _ _).from _) (Kp.of_below ((Below.refl _ W).alloc (Nat.le_refl _) _) hlt hB.size) ⟨⟨v,hv.alloc _,hrow.alloc _,trivial⟩,hB.alloc hB.size _⟩ ⟨W.heap.size,hlt,World.alloc_heap_new _ _,rfl⟩
  case body =>
    rintro l pre x a' W hl ⟨rr',hr⟩ ⟨⟨v,hv,hrow,-⟩,hB⟩ ⟨Bx,hBx,bX,rfl⟩ hlt
    have hc:=hv.cell
    have hlt1:Bx < W.heap.size:=(Array.getElem?_eq_some_iff.1 bX).1
    simp only [encLb] at bX
    have bX0:W.cell? ⟨Bx,0,none⟩ = some (.string ⟨x.key.toArray⟩):=by simp [World.cell?,bX]
    have bX1:W.cell? ⟨Bx,1,none⟩ = some (.int .i64 x.event):=by simp [World.cell?,bX]
    have bX2:W.cell? ⟨Bx,2,none⟩ = some (.int .i64 x.know):=by simp [World.cell?,bX]
    have HR:=Lib.hid hr
    have HB:=Lib.hid hB
    have HX:=Lib.hid bX
    have HW:=Lib.hid hrow
    have HV:=Lib.hid hv
    clear hr hB bX hrow hv hB1 hBl hle hB0
    simp only [encLb]
    gi_wp2_with (gi_at_builtin; refine wpListIn_append_own_at _ rfl _ _ 24 rfl w.heap.size 65 i0 _ 3 32 underlying24' hi hz0 hz1 hz2 rfl (by decide) _ _ _ rfl (HW.out.alloc _) ⟨W.heap.size, 0, none⟩ 1 1 (encLb x) rfl rfl (cells_new _ _ _) (enc_one x) (by have : (2000000 : Nat) ≤ maxLen := by decide
                                                                                                                                                                                                                                                               omega) (by omega) (by have:=HB.out.size; simp; omega) ?_; intro v' w1 hown' hgrow hat; obtain ⟨g',cap',rfl⟩:=ownsRow_succ hown'; obtain ⟨hv1,hv2,hr2,hk2,hb2⟩:=HV.out.appended (by decide) HW.out HB.out.size (Nat.le_succ _) hown' hgrow; have hc1:=hv1.cell; have hf1:=hv1.frozen; have HY:=Lib.hid (And.intro hgrow (And.intro hat (And.intro hv1 (And.intro hv2 (And.intro hr2 (And.intro hk2 hb2)))))); clear hown' hgrow hat hv1 hv2 hr2 hk2 hb2 bX0 bX1 bX2 hc)
    obtain ⟨hgrow,hat,hv1,hv2,hr2,hk2,hb2⟩:=HY.out
    exact ⟨hk2.from _,body_kp HV.out hgrow hat hv1 hb2,⟨_,hv2,by rw [flatL_snoc,List.length_append]; exact hr2,trivial⟩,HB.out.trans hb2⟩
  case done =>
    rintro D ys W hD rfl ⟨⟨v,hv,hrow,-⟩,hB⟩ hK
    obtain ⟨ad,cp,rfl⟩:∃ ad cp,v = .slice ad (smpL r).length cp:=by
      rcases hrow.2 with ⟨rfl,h0⟩ | ⟨g,cap,cur,rfl,_⟩
      · exact ⟨none,0,by rw [h0]⟩
      · exact ⟨_,_,rfl⟩
    have hc:=hv.cell
    have hf:=hv.frozen
    have HB:=Lib.hid hB
    have HR:=Lib.hid hrow
    have HV:=Lib.hid hv
    have HK:=Lib.hid hK
    clear hB hrow hv hK
    gi_wp2
    have hne:D ≠ w.heap.size + 1:=by omega
    have hD1:(W.setCell ⟨w.heap.size + 1,0,none⟩ (.slice ad (smpL r).length cp)).heap[D]? = some (.deferred (some [])):=(Below.heap_setCell _ _ _ D (fun e=>hne e)).trans HK.out
    have hV1:Boxed (W.setCell ⟨w.heap.size + 1,0,none⟩ (.slice ad (smpL r).length cp)) (w.heap.size + 1) 24 (.slice ad (smpL r).length cp):=HV.out.set _
    have hR1:(W.setCell ⟨w.heap.size + 1,0,none⟩ (.slice ad (smpL r).length cp)).ownsRow w.heap.size 65 3 (.slice ad (smpL r).length cp) (smpL r).length (flatL (smpL r)):=HR.out.kept (grownBy_setCell' W (w.heap.size + 1) _) (.inr (HV.out.not_row (by decide) HR.out).symm)
    refine ⟨by simp,.inl ⟨_,_,rfl,run_takeDeferred hD1,?_⟩⟩
    refine ⟨_,res23 _ _ (w.heap.size + 1) ad (smpL r).length cp rfl ?_,_,rfl,ownsRow_putObj hR1 _ hD1 rfl,(HB.out.setCell (p:=⟨w.heap.size + 1,0,none⟩) (by simp) _).trans (belowK_b (w:=w) (Nat.le_refl _) _ D _ _ (by omega) hD1 rfl rfl)⟩
    have h2:((W.setCell ⟨w.heap.size + 1,0,none⟩ (.slice ad (smpL r).length cp)).putObj D (.deferred none)).heap[w.heap.size + 1]? = some (.cells #[.slice ad (smpL r).length cp] 24 (0,0)):=(World.putObj_heap_other (fun e=>hne e.symm)).trans hV1
    exact Boxed.cell h2
  case stop =>
    rintro D c pre W _ _ h _
    exact h.elim
end Go.Proofs.Q24
namespace Go.Abs
open Go.Proofs Go.RowKit Go.Proofs.Q24
theorem flatL_get:∀ {l:List Lb} {i:Nat} {x:Lb} (j:Nat),l[i]? = some x→j < 3→(flatL l)[i * 3 + j]? = some ((encLb x)[j]!)
 | [],i,x,j,h,_=>by simp at h
 | y :: l,0,x,j,h,hj=>by
  simp only [List.getElem?_cons_zero,Option.some.injEq] at h
  subst h
  have e:flatL (y :: l) = encLb y ++ flatL l:=by simp [flatL]
  rw [e,Nat.zero_mul,Nat.zero_add,List.getElem?_append_left (by rw [enc_len3]; exact hj)]
  match j,hj with
  | 0,_=>rfl
  | 1,_=>rfl
  | 2,_=>rfl
 | y :: l,i + 1,x,j,h,hj=>by
  have e:flatL (y :: l) = encLb y ++ flatL l:=by simp [flatL]
  rw [e,List.getElem?_append_right (by rw [enc_len3]; omega),enc_len3,show (i + 1) * 3 + j - 3 = i * 3 + j by omega]
  exact flatL_get j (by simpa using h) hj
theorem rep_row {W:World} {base:Nat} {I':Nat→Nat→Prop} {B:Nat→Option Nat} {K:Nat→Nat→Value→Prop} {l:List Lb} {v:Value} (hown:W.ownsRow base 65 3 v l.length (flatL l)) (hI:∀ g,v.ownBlock = some g→∀ o,I' g o∨l.length * 3≤o):Rep ⟨I',B,K⟩ W (.sl 3 (lbsL l) .no) v:=by
 have hll:(lbsL l).length = l.length:=List.length_map _
 have hsz:∀ e ∈ lbsL l,e.cells.length = 3:=fun e he=>by obtain ⟨x,_,rfl⟩:=List.mem_map.1 he; rfl
 have hcl:∀ e ∈ lbsL l,e.closed1 = true:=fun e he=>by obtain ⟨x,_,rfl⟩:=List.mem_map.1 he; rfl
 obtain ⟨u,hu⟩:∃ u:Nat→Nat→Value,u = fun i j=>match l[i]? with | some x=>if j < 3 then (encLb x)[j]! else .bool true | none=>.bool true:=⟨_,rfl⟩
 have hget:∀ (i:Nat) (e:AV) (j:Nat) (c:AV),(lbsL l)[i]? = some e→e.cells[j]? = some c→∃ x,l[i]? = some x∧j < 3∧u i j = (encLb x)[j]!∧(lbA x).cells[j]? = some c:=fun i e j c hi hj=>by
  obtain ⟨x,hx,rfl⟩:∃ x,l[i]? = some x∧lbA x = e:=by simpa using hi
  have hj3:j < 3:=(List.getElem?_eq_some_iff.1 hj).1
  exact ⟨x,hx,hj3,by rw [hu]; simp [hx,hj3],hj⟩
 have h:∀ (i:Nat) (e:AV) (j:Nat) (c:AV),(lbsL l)[i]? = some e→e.cells[j]? = some c→Rep ⟨I',B,K⟩ W c (u i j):=fun i e j c hi hj=>by
  obtain ⟨x,hx,hj3,hux,hc⟩:=hget i e j c hi hj
  obtain ⟨c',hc1,hr⟩:=enc_rep (E:=⟨I',B,K⟩) (w:=W) x j hj3
  rw [hc] at hc1
  injection hc1 with hc1
  subst hc1
  rw [hux]; exact hr
 have h1:∀ i j,(u i j).oneCell' = true:=fun i j=>by
  rw [hu]
  dsimp only
  split
  ·split
   ·rename_i x _ hj
    match j,hj with
    | 0,_=>rfl
    | 1,_=>rfl
    | 2,_=>rfl
   ·rfl
  ·rfl
 rcases hown.2 with ⟨rfl,h0⟩ | ⟨g,cap,cur,rfl,hb,hg,hk,hm,hs,hx⟩
 ·have hl:lbsL l = []:=List.length_eq_zero_iff.1 (hll.trans h0)
  rw [hl] at hsz hcl h ⊢
  exact .sl 3 [] .no none 0 u (Nat.le_refl _) (Nat.zero_le _) (.inl rfl) hsz hcl trivial h h1
 ·have:=Rep.sl (E:=⟨I',B,K⟩) (w:=W) 3 (lbsL l) .no (some ⟨g,0,none⟩) cap u (by rw [hll]; exact hk) hm (.inr ⟨g,0,rfl,fun i e j c hi hj=>?_⟩) hsz hcl trivial h h1
  ·rw [hll] at this; exact this
  ·obtain ⟨x,hx,hj3,hux,_⟩:=hget i e j c hi hj
   have hil:i < l.length:=(List.getElem?_eq_some_iff.1 hx).1
   rw [Nat.zero_add,hux]
   refine ⟨(hI g rfl (i * 3 + j)).resolve_right (by omega),?_⟩
   rw [hown.cellAt (i * 3 + j) (by omega)]
   exact flatL_get j hx hj3
theorem elt_rebase {E:Env} {w:World} {sz i0 j0:Nat} {es:List AV} {v:Value} (h:Rep E w (.elt sz es i0 j0) v) (B:Nat→Option Nat) (K:Nat→Nat→Value→Prop):Rep ⟨E.I,B,K⟩ w (.elt sz es i0 j0) v:=by
 cases h with
 | elt _ _ _ _ b off u hcl hA h h1=>exact .elt sz es i0 j0 b off u hcl hA (fun i e j c hi hj=>(h i e j c hi hj).rebase (closed_closed1 (closed1_cells (hcl e (List.mem_of_getElem? hi)) hj)) B K) h1
def s23:Spec:=fun args=>match args with
 | [a]=>match unRqN a with
  | some r=>if r.labels.length≤1900000∧∀ x ∈ r.labels,lbFit 0 x then some (.sl 3 (lbsL (smpL r)) .no,[]) else none
  | none=>none
 | _=>none
theorem run23 {r:Rq} (h1:r.labels.length≤1900000) (h2:∀ x ∈ r.labels,lbFit 0 x):s23 [rqA r] = some (.sl 3 (lbsL (smpL r)) .no,[]):=by
 unfold s23
 simp only [unRqN_ok]
 rw [if_pos ⟨h1,h2⟩]
theorem o23 (m:Int):SpecOk PQ (GQ m) 23 s23:=by
 intro f args r lv h E w vs hI hG hn hv hcl
 dsimp only at h
 split at h
 case isFalse=>cases h
 rename_i ef
 subst ef
 unfold s23 at h
 split at h
 case h_2=>cases h
 rename_i a
 split at h
 case h_2=>cases h
 rename_i rq hu
 split at h
 case isFalse=>cases h
 rename_i hc
 obtain ⟨hlen,hfit⟩:=hc
 injection h with h
 simp only [Prod.mk.injEq] at h
 obtain ⟨rfl,rfl⟩:=h
 obtain rfl:=unRqN_inv _ _ hu
 obtain ⟨v0,rfl⟩:∃ v0,vs = #[v0]:=by
  match vs,hn with
  | ⟨[v0]⟩,_=>exact ⟨v0,rfl⟩
 have hr:=(hv 0 _ _ rfl rfl).rebase rfl (fun _=>none) (fun _ _ _=>False)
 simp only [List.getElem_toArray,List.getElem_cons_zero] at hr
 cases hr with | agg cs us hn1 ho hq =>
 obtain ⟨c0,c1,ls,x3,x4,rfl⟩:∃ c0 c1 ls x3 x4,us = #[c0,c1,ls,x3,x4]:=by
  match us,hn1 with
  | ⟨[c0,c1,ls,x3,x4]⟩,_=>exact ⟨c0,c1,ls,x3,x4,rfl⟩
 have r2:=hq 2 _ _ rfl rfl
 have r3:=hq 3 _ _ rfl rfl
 have r4:=hq 4 _ _ rfl rfl
 cases r3
 cases r4
 have hG':GlobOk (GQ m) (envI E.I) w:=fun g e hg=>⟨(hG g e hg).1,elt_rebase (hG g e hg).2.1 _ _,(hG g e hg).2.2⟩
 refine .inl ⟨goodQ (by kernel_rfl),(callsIn_wide.1 (sample_in 5 (Nat.le_refl _) m E.I rq c0 c1 ls w hI hG' r2 hlen hfit)).mono ?_⟩
 rintro e w' ⟨v,rfl,hown,hb⟩
 refine ⟨v,rfl,fun b o=>E.I b o∨(w.heap.size≤b∧b < w'.heap.size),fun b o h=>.inl h,fun b o h=>h,hb,.inl ⟨rfl,fun B K=>rep_row hown fun g hg o=>.inl (.inr (hown.lt g hg))⟩⟩
end Go.Abs
namespace Go.Abs
open Go.Proofs Go.Wire
def shLb:Sh × Option TypeId:=(.val (.one (.sl 3 .no)),none)
def XNs:Shapes:=fun f=>match f with
 | 21 | 23=>some shLb
 | 10 | 16 | 22 | 24 | 27=>some shB
 | 25 | 26=>some shLax
 | _=>none
def pmR (x:Rq) (p:Int):Rq:=⟨x.entity,x.feats,x.labels,x.seed,p⟩
def cR (x:Rq):List AV:=[.str x.entity,.sl 1 (strsL x.feats) .no,.sl 3 (lbsL x.labels) .no,.int .i64 x.seed,.int .i64 x.permille]
def stN (x:Rq) (q:Int):St:=⟨[some (cR x),some (cR (pmR x 1000)),some (cR (pmR x 0)),some (cR (pmR x q))],[]⟩
def a6 (x:Rq) (q:Int):Anns:=⟨fun k=>match k with
 | 15=>some { α:=Nat,slots:=[1,2,5,9,10,11],nb:=4,vals:=fun i=>[.int .i64 q,.ptr 0 0,.sl 3 (lbsL (srtU x.labels)) .no,.sl 3 (lbsL (smpL x)) .no,.sl 3 (lbsL (smpL (pmR x q))) .no,.int .i64 i],sS:=fun _=>stN x q,I:=fun i=>i≤(smpL x).length,μ:=fun i=>(smpL x).length - i }
 | 20=>some { α:=Nat,slots:=[2,5,9,12],nb:=4,vals:=fun i=>[.ptr 0 0,.sl 3 (lbsL (srtU x.labels)) .no,.sl 3 (lbsL (smpL x)) .no,.int .i64 i],sS:=fun _=>stN x q,I:=fun i=>i≤(srtU x.labels).length,μ:=fun i=>(srtU x.labels).length - i }
 | 1000003=>some { α:=Unit,slots:=[1,2],nb:=1,vals:=fun _=>[.int .i64 q,.ptr 0 0],sS:=fun _=>stR x,I:=fun _=>fewB x = true∧x.labels.length≤150,μ:=fun _=>0 }
 | _=>none,nA⟩
def t6:List (FuncId × Spec):=[(10,s10),(21,s21),(23,s23),(22,s22),(24,s24),(26,laxS s26),(25,laxS s25),(27,s27),(16,sTrue)]
end Go.Abs
