/- Own texts, part 4. -/
import Derived.Test.YtfcdefnkhkijaaaGreatDoorPart3
import Derived.Lib.SlBytesConst

namespace Go.Abs
open Go.RowKit
def coversA (ops:List Oper) (ol:Oper):Bool:=
 ((ops ++ [ol]).zipIdx.all fun (oi,i)=>oi.guard.isNone && oi.after.toList.all fun e=>!Region.binds .any e || decide (e.on < i)) &&
 (List.range ops.length).all fun i=>(List.range (ops.length + 1)).any fun j=>decide (i < j) && dirA (ops ++ [ol]) j i
section
variable {P : Program} {Q : Exit → Act → World → Prop}
def lastQ (Q:Exit→Act→World→Prop) (X:Act→World→Prop):Exit→Act→World→Prop:=fun e a w =>
 match e with
 | .normal=>X a w
 | e=>Q e a w
theorem upon_lastQ {o:Oper} {a:Act} {K:Act→World→Prop} {X:Act→World→Prop} (r:Result Next):o.upon P a K (lastQ Q X) r = o.upon P a K Q r:=by
 cases r with
 | ok n w'=>cases n <;> rfl
 | halt x w'=>cases x <;> rfl
structure Cov (ops:List Oper) (ol:Oper):Prop where
 grd:∀ (i:Nat) (o:Oper),(ops ++ [ol])[i]? = some o→o.guard = none
 back:∀ (i:Nat) (o:Oper),(ops ++ [ol])[i]? = some o→∀ e ∈ o.after,Region.binds .any e = true→e.on < i
 next:∀ i,i < ops.length→∃ j o e,i < j∧(ops ++ [ol])[j]? = some o∧e ∈ o.after∧Region.binds .any e = true∧e.on = i
theorem cov_of {ops:List Oper} {ol:Oper} (h:coversA ops ol = true):Cov ops ol:=by
 unfold coversA at h
 rw [Bool.and_eq_true] at h
 obtain ⟨h1,h2⟩:=h
 have g:∀ (i:Nat) (o:Oper),(ops ++ [ol])[i]? = some o→o.guard = none∧∀ e ∈ o.after,Region.binds .any e = true→e.on < i:=fun i o ho=>by
  have:=zip_all h1 ho
  simp only [Bool.and_eq_true,List.all_eq_true] at this
  refine ⟨by simpa using this.1,fun e he hb=>?_⟩
  have h3:=this.2 e (by simpa using he)
  simpa [hb] using h3
 refine ⟨fun i o ho=>(g i o ho).1,fun i o ho=>(g i o ho).2,fun i hi=>?_⟩
 rw [List.all_eq_true] at h2
 have h3:=h2 i (List.mem_range.2 hi)
 rw [List.any_eq_true] at h3
 obtain ⟨j,_,h4⟩:=h3
 simp only [Bool.and_eq_true,decide_eq_true_eq] at h4
 obtain ⟨h5,h6⟩:=h4
 unfold dirA at h6
 split at h6
 ·rename_i o ho
  rw [List.any_eq_true] at h6
  obtain ⟨e,he,h7⟩:=h6
  simp only [Bool.and_eq_true,beq_iff_eq] at h7
  exact ⟨j,o,e,h5,ho,by simpa using he,h7.1,h7.2⟩
 ·cases h6
theorem getD_push_lt {l:Array Bool} {i:Nat} {b d:Bool} (h:i < l.size):(l.push b).getD i d = l.getD i d:=by
 simp [Array.getD,Array.size_push,Nat.lt_succ_of_lt h,h,Array.getElem_push_lt h]
theorem getD_push_eq {l:Array Bool} {b d:Bool}:(l.push b).getD l.size d = b:=by
 simp [Array.getD]
theorem set_push {l:Array Bool} {i:Nat} {b c:Bool} (h:i < l.size):(l.push b).setIfInBounds i c = (l.setIfInBounds i c).push b:=by
 apply Array.ext_getElem?
 intro j
 simp only [Array.getElem?_setIfInBounds,Array.getElem?_push,Array.size_push,Array.size_setIfInBounds]
 by_cases h1:i = j
 ·subst h1
  rw [if_pos rfl,if_pos (by omega),if_neg (by omega),if_pos rfl,if_pos h]
 ·rw [if_neg h1]
  split
  ·rfl
  ·rfl
theorem getD_set {l:Array Bool} {i k:Nat} {d:Bool}:(l.setIfInBounds i true).getD k d = if i = k∧k < l.size then true else l.getD k d:=by
 rw [Array.getD_eq_getD_getElem?,Array.getD_eq_getD_getElem?,Array.getElem?_setIfInBounds]
 by_cases h1:i = k
 ·subst h1
  by_cases h2:i < l.size
  ·simp [h2]
  ·simp [h2]
 ·simp [h1]
def ClL (ops:List Oper) (l:Array Bool):Prop:=∀ (j:Nat) (o:Oper),ops[j]? = some o→l.getD j false = true→∀ e ∈ o.after,Region.binds .any e = true→l.getD e.on false = true
theorem mem_last {ops:List Oper} {ol:Oper} {l:Array Bool} (hc:Cov ops ol) (hn:l.size = ops.length) {i:Nat} (hi:i < ops.length):i ∈ Region.ready .any (ops ++ [ol]).toArray (l.push false) ↔ i ∈ Region.ready .any ops.toArray l:=by
 have e1:(ops ++ [ol]).toArray[i]? = ops.toArray[i]?:=by
  simp [List.getElem?_append_left hi]
 rw [mem_ready,mem_ready,e1,getD_push_lt (by omega)]
 refine and_congr Iff.rfl ⟨fun ⟨o,ho,h⟩=>⟨o,ho,fun e he hb=>?_⟩,fun ⟨o,ho,h⟩=>⟨o,ho,fun e he hb=>?_⟩⟩
 ·have hlt:=hc.back i o (by rw [List.getElem?_append_left hi]; simpa using ho) e he hb
  have:=h e he hb
  rwa [getD_push_lt (by omega)] at this
 ·have hlt:=hc.back i o (by rw [List.getElem?_append_left hi]; simpa using ho) e he hb
  rw [getD_push_lt (by omega)]
  exact h e he hb
theorem last_ready {ops:List Oper} {ol:Oper} {l:Array Bool} (hc:Cov ops ol) (hn:l.size = ops.length) (hcl:ClL ops l):ops.length ∈ Region.ready .any (ops ++ [ol]).toArray (l.push false) ↔ ∀ i,i < ops.length→l.getD i false = true:=by
 have e1:(ops ++ [ol]).toArray[ops.length]? = some ol:=by simp
 rw [mem_ready,e1]
 constructor
 ·rintro ⟨_,o,ho,h⟩
  injection ho with ho
  subst ho
  -- from the top down
  have key:∀ k i,i < ops.length→ops.length - i≤k→l.getD i false = true:=by
   intro k
   induction k with
   | zero=>intro i hi hk; omega
   | succ k ih =>
    intro i hi hk
    obtain ⟨j,o,e,hij,ho,he,hb,heo⟩:=hc.next i hi
    by_cases hj:j < ops.length
    ·have h1:=ih j hj (by omega)
     rw [List.getElem?_append_left hj] at ho
     have:=hcl j o ho h1 e he hb
     rwa [heo] at this
    ·have hjn:j = ops.length:=by
      have:=(List.getElem?_eq_some_iff.1 ho).1
      simp at this; omega
     subst hjn
     simp at ho
     subst ho
     have:=h e he hb
     rw [getD_push_lt (by omega),heo] at this
     exact this
  exact fun i hi=>key ops.length i hi (by omega)
 ·intro h
  refine ⟨by rw [← hn]; exact getD_push_eq,ol,rfl,fun e he hb=>?_⟩
  have hlt:=hc.back ops.length ol (by simp) e he hb
  rw [getD_push_lt (by omega)]
  exact h _ hlt
theorem ready_nil {ops:List Oper} {ol:Oper} {l:Array Bool} (hc:Cov ops ol) (hn:l.size = ops.length) (h:Region.ready .any ops.toArray l = []):∀ i,i < ops.length→l.getD i false = true:=by
 intro i
 induction i using Nat.strongRecOn with
 | _ i ih =>
  intro hi
  have hni:i ∉ Region.ready .any ops.toArray l:=by rw [h]; simp
  rw [mem_ready] at hni
  have hlt:i < l.size:=by omega
  cases hv:l.getD i false with
  | true=>rfl
  | false =>
   exfalso
   apply hni
   refine ⟨by simpa [Array.getD,hlt] using hv,ops[i],by simp [hi],fun e he hb=>?_⟩
   have hb':=hc.back i ops[i] (by rw [List.getElem?_append_left hi]; simp [hi]) e he hb
   exact ih e.on hb' (by omega)
theorem wpOp_plain {ops:Array Oper} {Q:Exit→Act→World→Prop} {i:Nat} {o:Oper} (ho:ops[i]? = some o) (hg:o.guard = none) {K:Act→World→Prop} {a:Act} {w:World}:wpOp P ops Q i K a w ↔ (o.wp P a w K Q∨(o.asks P a w∧LetsOut Q)):=by
 unfold wpOp
 rw [ho]
 simp only [Region.wanted,hg]
 simp
theorem any_last {ops:List Oper} {ol:Oper} {X:Act→World→Prop} (hc:Cov ops ol) (hX:∀ a w,X a w→wpOp P (ops ++ [ol]).toArray Q ops.length (Q .normal) a w) :
  ∀ (fuel:Nat) (l:Array Bool) (a:Act) (w:World),l.size = ops.length→ClL ops l→wpAny P .any ops.toArray (lastQ Q X) fuel l a w→wpAny P .any (ops ++ [ol]).toArray Q (fuel + 1) (l.push false) a w:=by
 have fin:∀ (fuel:Nat) (l:Array Bool) (a:Act) (w:World),l.size = ops.length→ClL ops l→Region.ready .any ops.toArray l = []→X a w→wpAny P .any (ops ++ [ol]).toArray Q (fuel + 1) (l.push false) a w:=fun fuel l a w hn hcl hr hx=>by
  have hall:=ready_nil hc hn hr
  have hlast:=(last_ready hc hn hcl).2 hall
  refine ⟨fun h=>by rw [h] at hlast; simp at hlast,fun i hi=>?_⟩
  have hin:i = ops.length:=by
   rcases Nat.lt_trichotomy i ops.length with h | h | h
   ·have:=(mem_last hc hn h).1 hi
    rw [hr] at this; simp at this
   ·exact h
   ·obtain ⟨_,o,ho,_⟩:=mem_ready.1 hi
    have:=(Array.getElem?_eq_some_iff.1 ho).1
    simp at this; omega
  subst hin
  refine wpOp_mono (fun a' w' h=>?_) (hX a w hx)
  have hnil:Region.ready .any (ops ++ [ol]).toArray ((l.push false).setIfInBounds ops.length true) = []:=by
   rw [List.eq_nil_iff_forall_not_mem]
   intro j hj
   obtain ⟨h1,o,ho,_⟩:=mem_ready.1 hj
   have hjn:=(Array.getElem?_eq_some_iff.1 ho).1
   simp at hjn
   rcases Nat.lt_or_ge j ops.length with hjl | hjl
   ·have h2:=hall j hjl
    have h3:((l.push false).setIfInBounds ops.length true).getD j true = l.getD j true:=by
     rw [getD_set,if_neg (by omega),getD_push_lt (by omega)]
    rw [h3] at h1
    simp only [Array.getD] at h1 h2
    rw [dif_pos (by omega)] at h1 h2
    rw [h1] at h2; cases h2
   ·have:j = ops.length:=by omega
    subst this
    simp [Array.getD,hn] at h1
  exact wpAny_done hnil h _
 intro fuel
 induction fuel with
 | zero=>intro l a w hn hcl h; exact fin 0 l a w hn hcl h.1 h.2
 | succ fuel ih =>
  intro l a w hn hcl h
  by_cases hr:Region.ready .any ops.toArray l = []
  ·exact fin _ l a w hn hcl hr (h.1 hr)
  ·have hnl:ops.length ∉ Region.ready .any (ops ++ [ol]).toArray (l.push false):=fun hm=>by
    have hall:=(last_ready hc hn hcl).1 hm
    obtain ⟨i,hi⟩:=List.exists_mem_of_ne_nil _ hr
    obtain ⟨h1,o,ho,_⟩:=mem_ready.1 hi
    have hil:=(Array.getElem?_eq_some_iff.1 ho).1
    simp at hil
    have h2:=hall i hil
    simp only [Array.getD] at h1 h2
    rw [dif_pos (by omega)] at h1 h2
    rw [h1] at h2; cases h2
   have hne:Region.ready .any (ops ++ [ol]).toArray (l.push false) ≠ []:=fun he=>by
    obtain ⟨i,hi⟩:=List.exists_mem_of_ne_nil _ hr
    obtain ⟨h1,o,ho,_⟩:=mem_ready.1 hi
    have hil:=(Array.getElem?_eq_some_iff.1 ho).1
    simp at hil
    have:=(mem_last hc hn hil).2 hi
    rw [he] at this; simp at this
   refine ⟨fun h=>absurd h hne,fun i hi=>?_⟩
   have hil:i < ops.length:=by
    rcases Nat.lt_trichotomy i ops.length with h | h | h
    ·exact h
    ·subst h; exact absurd hi hnl
    ·obtain ⟨_,o,ho,_⟩:=mem_ready.1 hi
     have:=(Array.getElem?_eq_some_iff.1 ho).1
     simp at this; omega
   have hiB:=(mem_last hc hn hil).1 hi
   have h2:=h.2 i hiB
   obtain ⟨h1,o,ho,hdeps⟩:=mem_ready.1 hiB
   have ho2:(ops ++ [ol])[i]? = some o:=by rw [List.getElem?_append_left hil]; simpa using ho
   have hg:=hc.grd i o ho2
   rw [wpOp_plain ho hg] at h2
   rw [wpOp_plain (by simpa using ho2) hg]
   have hcl2:ClL ops (l.setIfInBounds i true):=fun j o' ho' hj e he hb=>by
    have hmono:∀ k,l.getD k false = true→(l.setIfInBounds i true).getD k false = true:=fun k hk=>by
     rw [getD_set]
     split
     ·rfl
     ·exact hk
    by_cases hji:j = i
    ·subst hji
     have:o' = o:=by
      have e1:ops.toArray[j]? = some o':=by simpa using ho'
      rw [ho] at e1; injection e1 with e1; exact e1.symm
     subst this
     exact hmono _ (hdeps e he hb)
    ·have hj2:l.getD j false = true:=by
      rwa [getD_set,if_neg (fun e=>hji e.1.symm)] at hj
     exact hmono _ (hcl j o' ho' hj2 e he hb)
   have conv:∀ K K':Act→World→Prop,(∀ a w,K a w→K' a w)→(o.wp P a w K (lastQ Q X)∨(o.asks P a w∧LetsOut (lastQ Q X)))→(o.wp P a w K' Q∨(o.asks P a w∧LetsOut Q)):=fun K K' hK hh=>by
    rcases hh with hh | ⟨h3,h4⟩
    ·left
     unfold Oper.wp at hh ⊢
     rw [upon_lastQ] at hh
     exact Oper.wp_mono (o:=o) (w:=w) hK hh
    ·exact .inr ⟨h3,h4⟩
   refine conv _ _ (fun a' w' hk=>?_) h2
   rw [set_push (by omega)]
   exact ih _ a' w' (by simpa using hn) hcl2 hk
end
def lastRW (P:Program) (G:Glob) (X:Shapes) (R:Callee) (C:CCallee) (ops:List Oper) (T:List AV) (S:St) (K:List AV→St→Prop):Prop:=
 match ops.getLast? with
 | none=>False
 | some ol =>
  if drawOk ops.dropLast && coversA ops.dropLast ol then
   logW P G X R (drawC C) (lkOn C) ops.dropLast ops.dropLast S.boxes.length T (roomFor ops.dropLast S) fun lg T' S'=>if confOk ops.dropLast lg then listW P G X R C ops [ol] S.boxes.length T' S' K else False
  else False
def litA (P:Program) (G:Glob) (o o2:Oper) (T:List AV):Option AV:=
 match o.op,o2.op with
 | .buildSlice t n parts,.convert s d (.tmp x) =>
  if s = t∧d = t∧o.dst = some x∧x < T.length∧o.guard.isNone∧o2.guard.isNone then
   match P.underlying t with
   | some (.slice e) =>
    match P.underlying e with
    | some (.int .u8)=>buildSliceA P t n (parts.toList.map fun p=>(p.1,evA G T p.2))
    | _=>none
   | _=>none
  else none
 | _,_=>none
def pairW (P:Program) (G:Glob) (X:Shapes) (R:Callee) (C:CCallee) (ops:List Oper):List Oper→Nat→List AV→St→(List AV→St→Prop)→Prop
 | [],_,T,S,K=>K T S
 | [o],bid,T,S,K=>stepWl P G X R C ops bid o T S fun r S'=>K (putA T o.dst r) S'
 | o :: o2 :: l,bid,T,S,K =>
  match litA P G o o2 T with
  | some r=>pairW P G X R C ops l (nextBid o2 (nextBid o bid)) (putA (putA T o.dst r) o2.dst r) S K
  | none=>stepWl P G X R C ops bid o T S fun r S'=>pairW P G X R C ops (o2 :: l) (nextBid o bid) (putA T o.dst r) S' K
def pairRW (P:Program) (G:Glob) (X:Shapes) (R:Callee) (C:CCallee) (ops:List Oper) (T:List AV) (S:St) (K:List AV→St→Prop):Prop:=
 pairW P G X R C ops ops S.boxes.length T (roomFor ops S) K
def qcodeW (P:Program) (mk:Mk) (G:Glob) (X:Shapes) (R:Callee) (C:CCallee) (qs:List Nat) (A:Anns) (m:List Bool):Code→WStep
 | .region id ops draw =>
  if hasP qs (.region id ops draw) then
   if draw then fun T S K=>lastRW P G X R C ops.toList T S fun T' S'=>mk (maskA m T') S' (K .normal)
   else fun T S K=>pairRW P G X R C ops.toList T S fun T' S'=>mk (maskA m T') S' (K .normal)
  else codeW P mk G X R C A m (.region id ops draw) noLd
 | .seq a b =>
  if hasP qs (.seq a b) then cutW P mk (A.loop (cutAt (firstReg b))) (qcodeW P mk G X R C qs A m a) (qcodeW P mk G X R C qs A m b)
  else codeW P mk G X R C A m (.seq a b) noLd
 | .cond q x y =>
  if hasP qs (.cond q x y) then fun T S K =>
   match evA G T q with
   | .bool true=>qcodeW P mk G X R C qs A m x T S K
   | .bool false=>qcodeW P mk G X R C qs A m y T S K
   | _=>False
  else codeW P mk G X R C A m (.cond q x y) noLd
 | .block id b =>
  if hasP qs (.block id b) then fun T S K=>qcodeW P mk G X R C qs A m b T S (blockK id K)
  else codeW P mk G X R C A m (.block id b) noLd
 | .loop b =>
  if hasP qs (.loop b) then loopW P mk (A.loop (firstReg b)) (qcodeW P mk G X R C qs A m b)
  else codeW P mk G X R C A m (.loop b) noLd
 | c=>codeW P mk G X R C A m c noLd
section
variable {P : Program} {G : Glob} {N0 : Nat → Prop} {w0 : World} {I0 : Nat → Nat → Prop}
theorem wpOp_list {ops:List Oper} {o:Oper} {Q:Exit→Act→World→Prop} {a:Act} {w:World} {i:Nat} (ho:ops[i]? = some o) (h:wpList P ops.toArray Q [o] a w):wpOp P ops.toArray Q i (Q .normal) a w:=by
 unfold wpOp
 have:ops.toArray[i]? = some o:=by simpa using ho
 rw [this]
 exact h
theorem lastRW_ok {X:Shapes} {R:Callee} {C:CCallee} (hm:P.follows .mixedOrders = true) (hR:CalleeOk P G R) (hC:ICalleeOk P G (lowC C)) {id:Nat} {ops:Array Oper} {m:List Bool} :
  WOk P G N0 w0 I0 (fun T S K=>lastRW P G X R C ops.toList T S fun T' S'=>K .normal (maskA m T') S') (.region id ops true):=by
 intro T S K E a w Q h hS hT hQ
 unfold lastRW at h
 split at h
 ·exact h.elim
 rename_i ol hol
 split at h
 case isFalse=>exact h.elim
 rename_i hoc
 rw [Bool.and_eq_true] at hoc
 obtain ⟨ho,hcov⟩:=hoc
 have hc:=cov_of hcov
 obtain ⟨lg,T',S',h1,hN⟩:=logW_imp h
 clear h
 split at hN
 case isFalse=>exact hN.elim
 rename_i hcf
 have hok:ICalleeOk P G (lowC (drawC C)):=fun f args S r S' h=>by
  rw [drawC_low] at h
  split at h
  ·exact locC_ok hC f args S r S' h
  ·exact noC_ok f args S r S' h
 have hlc:LocC (lowC (drawC C)):=fun f args S S2 h=>by
  rw [drawC_low]
  by_cases hl:lkOn C f = true
  ·rw [if_pos hl]; exact locC_loc (lowC C) f args S S2 h
  ·rw [if_neg hl]; exact noC_loc f args S S2 h
 have hops:ops.toList.dropLast ++ [ol] = ops.toList:=by
  obtain ⟨ys,hys⟩:=List.getLast?_eq_some_iff.1 hol
  rw [hys]; simp
 generalize hd:ops.toList.dropLast = l at *
 have hops2:ops = (l ++ [ol]).toArray:=by rw [hops]
 let X1:Act→World→Prop:=fun a' w'=>wpList P (l ++ [ol]).toArray Q [ol] a' w'
 have hA:=drawA_any (N0:=N0) (w0:=w0) (I0:=I0) (C:=lowC (drawC C)) (lk:=lkOn C) hm hR hok hlc (fun f e args S=>by rw [drawC_low,e,if_neg (by simp)]; rfl) ho h1 hcf (hS.roomFor l) hT (Q:=lastQ Q X1) fun E' w' a' k1 k2 k3 k4=>by
  show wpList P (l ++ [ol]).toArray Q [ol] a' w'
  rw [hops]
  exact listW_wp (N0:=N0) (w0:=w0) (I0:=I0) hR hC (Q:=Q) k1 k3 hN fun T2 S2 E2 w2 a2 l0 l1 l2 l3 l4=>hQ .normal _ _ E2 w2 a2 l0 l1 (k2.trans l2) (l3.mask' m) (l4.trans k4)
 have hL:=any_last hc (X:=X1) (Q:=Q) (fun a' w' hx=>wpOp_list (by simp) hx) _ _ _ _ (by simp) (fun j o hj hl=>by simp [Array.getD] at hl) hA
 rw [hops2]
 refine wp_region_any hm ?_
 have e1:((l ++ [ol]).toArray).size = l.toArray.size + 1:=by simp
 rw [e1,Array.replicate_succ]
 exact hL
theorem buildLit_run {S:St} {E:Env} {w:World} (hS:SR P G N0 w0 I0 S E w) {t e:TypeId} {len:Nat} {ps:List (Nat × AV)} {qs:Array (Nat × Value)} {r:AV} (h:buildSliceA P t len ps = some r) (hu:P.underlying t = some (.slice e)) (he:P.underlying e = some (.int .u8)) (hp:PR E w ps qs.toList) :
  ∃ v w1 w2 E',(Instr.buildSlice t len qs).run P w = .ok v w1∧(convert t t v).run P w1 = .ok v w2∧SR P G N0 w0 I0 S E' w2∧Env.Le E E' w w2∧Rep E' w2 r v:=by
 unfold buildSliceA at h
 rw [hu] at h
 simp only at h
 split at h
 case h_2=>cases h
 rename_i s hs
 split at h
 case isFalse=>cases h
 rename_i hh
 obtain ⟨hi,hlen,hlen2,hz,hall⟩:=hh
 simp at h; subst h
 obtain ⟨z,hz⟩:=Option.isSome_iff_exists.1 hz
 rw [List.all_eq_true] at hall
 have hall':∀ p ∈ ps,p.2.strip1.closed1 = true∧p.2.cells.length = s:=fun p hp=>by
  have:=hall p hp
  simpa using this
 have hv:=Vals.parts ps qs.toList hp hall'
 have hps:ps.length = len:=by have:=congrArg List.length hi; simpa using this
 have hqi:qs.toList.map (·.1) = List.range' 0 qs.toList.length:=by
  rw [← List.range_eq_range',← hp.1,hps,← hi]
  apply List.ext_getElem?
  intro k
  rw [List.getElem?_map,List.getElem?_map]
  cases hk:ps[k]? with
  | none =>
   have:¬ k < qs.toList.length:=by rw [← hp.1]; intro h'; rw [List.getElem?_eq_getElem h'] at hk; cases hk
   rw [List.getElem?_eq_none (by omega)]
   rfl
  | some p =>
   have hlt:k < qs.toList.length:=by rw [← hp.1]; exact (List.getElem?_eq_some_iff.1 hk).1
   rw [List.getElem?_eq_getElem hlt]
   have:=(hp.2 k p _ hk (List.getElem?_eq_getElem hlt)).1
   simp [this]
 have hqs:∀ q ∈ qs.toList,q.2.cells.size = s:=fun q hq=>by
  obtain ⟨k,hk⟩:=List.mem_iff_getElem?.1 hq
  have hlt:k < ps.length:=by rw [hp.1]; exact (List.getElem?_eq_some_iff.1 hk).1
  have h0:=hp.2 k _ q (List.getElem?_eq_getElem hlt) hk
  have hc:=hall' ps[k] (List.getElem_mem hlt)
  have:=h0.2.strip1.cr (closed1_plain hc.1)
  rw [this.1,strip1_cells]; exact hc.2
 have hfill:∀ (z:Array Value),Instr.fill (fun i=>some (i * s,s)) ((Array.range (len * s)).map (z[· % z.size]!)) qs.toList = some (qs.toList.flatMap fun q=>q.2.cells.toList).toArray:=fun z=>by
  have:=fill_row (s:=s) qs.toList 0 [] ((Array.range (len * s)).map (z[· % z.size]!)).toList hqi hqs (by simp) (by simp [← hp.1,hps])
  simpa only [List.nil_append,Array.toArray_toList] using this
 have hlen':¬ len * s > 2 ^ 24:=by omega
 have hrun:(Instr.buildSlice t len qs).run P w = .ok (.slice (some ⟨w.heap.size,0,none⟩) len len) (w.alloc (.cells (qs.toList.flatMap fun q=>q.2.cells.toList).toArray e)):=by
  unfold Instr.buildSlice
  simp only [Sem.run_bind,run_underlying hu,run_sizeOf' hs,Result.andThen_ok]
  rw [if_neg hlen']
  by_cases h0:len * s = 0
  ·simp only [h0,if_true,Sem.run_bind,Sem.run_pure,Result.andThen_ok]
   have:=hfill #[]
   rw [h0] at this
   rw [this]
   rfl
  ·simp only [h0,if_false,Sem.run_bind,run_zero hz,Sem.run_pure,Result.andThen_ok,hfill]
   rfl
 generalize hC:(qs.toList.flatMap fun q=>q.2.cells.toList).toArray = C at *
 obtain ⟨hS',hle⟩:=hS.ext (w':=w.alloc (.cells C e (C.size,C.size + 1))) (below_alloc w _) (I':=fun b o=>E.I b o∨(b = w.heap.size)) (fun b o h=>.inl h) (fun b o h=>h.imp id fun e=>by subst e; simp)
 refine ⟨_,_,_,_,hrun,Lib.run_convert_bytes_const w t e C len len hu he,hS',hle,?_⟩
 have hv':=hv.le hle
 have hl:(ps.map fun p=>p.2.strip1).length = len:=by simpa using hps
 have:=hv'.rep w.heap.size 0 len .full (by omega) (by simp only [maxLen]; omega) (fun j u hj=>⟨.inr rfl,by
   rw [Nat.zero_add,cell_of_row _ w.heap.size j _ e _ (heap_alloc_new w _),← hC]
   simpa using hj⟩) (by simp [OwnOk,hl])
 rw [hl] at this
 exact this
theorem litA_wp {o o2:Oper} {T:List AV} {S:St} {E:Env} {a:Act} {w:World} {Q:Exit→Act→World→Prop} {r:AV} {ops l:List Oper} (h:litA P G o o2 T = some r) (hS:SR P G N0 w0 I0 S E w) (hT:TR E w T a.tmps)
  (hK:∀ E' w' a',SR P G N0 w0 I0 S E' w'→Env.Le E E' w w'→TR E' w' (putA (putA T o.dst r) o2.dst r) a'.tmps→a'.defers = a.defers→wpList P ops.toArray Q l a' w'):wpList P ops.toArray Q (o :: o2 :: l) a w:=by
 obtain ⟨dst,op,type,pos,after,guard⟩:=o
 obtain ⟨dst2,op2,type2,pos2,after2,guard2⟩:=o2
 unfold litA at h
 simp only at h
 split at h
 case h_2=>cases h
 rename_i t n parts s d x
 split at h
 case isFalse=>cases h
 rename_i hc
 obtain ⟨rfl,rfl,rfl,hx,hg1,hg2⟩:=hc
 obtain rfl:guard = none:=by simpa using hg1
 obtain rfl:guard2 = none:=by simpa using hg2
 split at h
 case h_2=>cases h
 rename_i e hu
 split at h
 case h_2=>cases h
 rename_i he
 have hpr:PR E w (parts.toList.map fun p=>(p.1,evA G T p.2)) (parts.map fun p=>(p.1,a.eval p.2)).toList:=parts_rep hS hT parts
 obtain ⟨v,w1,w2,E',h1,h2,h3,h4,h5⟩:=buildLit_run hS h hu he hpr
 have hx2:x < a.tmps.size:=by rw [← hT.1]; exact hx
 refine .inl ?_
 refine wp_value (by exact run_v h1) ?_
 refine .inl ?_
 have e1:(a.put (some x) v).eval (.tmp x) = v:=by simp [Act.put,Act.eval,hx2]
 refine wp_value (by
  have:(convert d d ((a.put (some x) v).eval (.tmp x))).run P w1 = .ok v w2:=by rw [e1]; exact h2
  exact run_v this) ?_
 exact hK E' w2 _ h3 h4 (((hT.le h4).putA (some x) h5).putA dst2 h5) (by rw [put_defers,put_defers])
theorem pairW_wp {X:Shapes} {R:Callee} {C:CCallee} (hR:CalleeOk P G R) (hC:ICalleeOk P G (lowC C)) {ops:List Oper} {Q:Exit→Act→World→Prop}:∀ {l:List Oper} {bid:Nat} {T:List AV} {S:St} {K:List AV→St→Prop} {E:Env} {a:Act} {w:World},
  SR P G N0 w0 I0 S E w→TR E w T a.tmps→pairW P G X R C ops l bid T S K →
  (∀ T' S' E' w' a',K T' S'→SR P G N0 w0 I0 S' E' w'→Env.Le E E' w w'→TR E' w' T' a'.tmps→a'.defers = a.defers→Q .normal a' w')→wpList P ops.toArray Q l a w
 | [],_,T,S,K,E,a,w,hS,hT,h,hQ=>hQ T S E w a h hS (Env.Le.refl _ _) hT rfl
 | [o],bid,T,S,K,E,a,w,hS,hT,h,hQ=>by
  simp only [pairW] at h
  exact step_wp hR hC hS hT h fun E' w' v r S' hk h1 h2 h3=>hQ _ _ E' w' _ hk h1 h2 ((hT.le h2).putA o.dst h3) (put_defers _ _ _)
 | o :: o2 :: l,bid,T,S,K,E,a,w,hS,hT,h,hQ=>by
  simp only [pairW] at h
  split at h
  ·rename_i r hr
   exact litA_wp hr hS hT fun E' w' a' h1 h2 h3 h4=>pairW_wp hR hC h1 h3 h fun T2 S2 E2 w2 a2 k0 k1 k2 k3 k4=>hQ T2 S2 E2 w2 a2 k0 k1 (h2.trans k2) k3 (k4.trans h4)
  ·refine step_wp hR hC hS hT h fun E' w' v r S' hk h1 h2 h3=>?_
   exact pairW_wp hR hC h1 ((hT.le h2).putA o.dst h3) hk fun T2 S2 E2 w2 a2 k0 k1 k2 k3 k4=>hQ T2 S2 E2 w2 a2 k0 k1 (h2.trans k2) k3 (k4.trans (put_defers _ _ _))
theorem pairRW_ok {X:Shapes} {R:Callee} {C:CCallee} (_hm:P.follows .mixedOrders = true) (hR:CalleeOk P G R) (hC:ICalleeOk P G (lowC C)) {id:Nat} {ops:Array Oper} {m:List Bool} :
  WOk P G N0 w0 I0 (fun T S K=>pairRW P G X R C ops.toList T S fun T' S'=>K .normal (maskA m T') S') (.region id ops false):=by
 intro T S K E a w Q h hS hT hQ
 refine wp_region_list ?_
 have:=pairW_wp (N0:=N0) (w0:=w0) (I0:=I0) hR hC (Q:=Q) (hS.roomFor ops.toList) hT h fun T' S' E' w' a' k0 k1 k2 k3 k4=>hQ .normal _ _ E' w' a' k0 k1 k2 (k3.mask' m) k4
 simpa using this
theorem qcodeW_ok {X:Shapes} {R:Callee} {C:CCallee} {qs:List Nat} (hm:P.follows .mixedOrders = true) (hR:CalleeOk P G R) (hC:ICalleeOk P G (lowC C)) (A:Anns) (m:List Bool) :
  ∀ (c:Code),WOk P G N0 w0 I0 (qcodeW P idMk G X R C qs A m c) c:=by
 intro c
 have lift:∀ c,WOk P G N0 w0 I0 (codeW P idMk G X R C A m c noLd) c:=fun c=>(codeW_ok hm hR hC A m c).2.2.2
 induction c with
 | region id ops draw =>
  unfold qcodeW
  split
  case isFalse=>exact lift _
  split
  ·rename_i hd
   subst hd
   exact lastRW_ok hm hR hC
  ·rename_i hd
   have hd':draw = false:=by simpa using hd
   subst hd'
   exact pairRW_ok hm hR hC
 | seq x y ihx ihy =>
  unfold qcodeW
  split
  case isFalse=>exact lift _
  exact cutW_ok ihx ihy
 | cond q x y ihx ihy =>
  unfold qcodeW
  split
  case isFalse=>exact lift _
  intro T S K E a w Q h hS hT hQ
  have hc:=evA_rep hS.glob hT q
  split at h
  ·rename_i he
   rw [he] at hc
   exact wp_cond (rep_bool hc) (by simpa using ihx _ _ _ E a w Q h hS hT hQ)
  ·rename_i he
   rw [he] at hc
   exact wp_cond (rep_bool hc) (by simpa using ihy _ _ _ E a w Q h hS hT hQ)
  ·exact h.elim
 | block id b ih =>
  unfold qcodeW
  split
  case isFalse=>exact lift _
  exact blockW_ok ih
 | loop b ih =>
  unfold qcodeW
  split
  case isFalse=>exact lift _
  exact loopW_ok ih
 | _=>unfold qcodeW; exact lift _
end
def tailQ (P:Program) (mk:Mk) (G:Glob) (X:Shapes) (R:Callee) (C:CCallee) (qs:List Nat) (A:Anns) (m:List Bool) (z:Nat) (H:List AV→St→Prop):Code→List AV→St→(AExit→List AV→St→Prop)→Prop
 | .seq a b=>fun T S K=>qcodeW P mk G X R C qs A m a T S fun x T' S' =>
  match x with
  | .normal=>if firstReg b == z then H T' S' else tailQ P mk G X R C qs A m z H b T' S' K
  | x=>K x T' S'
 | c=>qcodeW P mk G X R C qs A m c
def tqW (P:Program) (mk:Mk) (G:Glob) (X:Shapes) (R:Callee) (C:CCallee) (qs:List Nat) (A:Anns) (m:List Bool) (z:Nat) (H:List AV→St→Prop) (f:FuncId) (args:List AV) (K:AV→St→Prop):Prop:=
 match P.funcs[f]? with
 | none=>False
 | some fn =>
  match fn.body with
  | none=>False
  | some c =>
   tailQ P mk G X R C qs A m z H c (args ++ List.replicate (fn.ntmps - args.length) (.tup [])) ⟨[],[]⟩ fun x T S' =>
    match x with
    | .normal | .ret=>someK (resultsA P T S' fn.results.toList) fun vs=>K (packA vs) S'
    | _=>False
structure TqOk (P:Program) (G:Glob) (X:Shapes) (R:Callee) (C:CCallee) (qs:List Nat) (A:Anns) (m:List Bool) (z:Nat) (H:List AV→St→Prop) (f:FuncId) (args:List AV) (r:AV):Prop where
 out:tqW P idMk G X R C qs A m z H f args fun r0 _=>RetLax r0 (r,[])
section
variable {P : Program} {G : Glob} {N0 : Nat → Prop} {w0 : World} {I0 : Nat → Nat → Prop}
theorem tailQ_wp {X:Shapes} {R:Callee} {C:CCallee} (hm:P.follows .mixedOrders = true) (hR:CalleeOk P G R) (hC:ICalleeOk P G (lowC C)) {qs:List Nat} {A:Anns} {m:List Bool} {z:Nat} {H:List AV→St→Prop} :
  ∀ (c:Code) {T:List AV} {S:St} {K:AExit→List AV→St→Prop} {E:Env} {a:Act} {w:World} {Q:Exit→Act→World→Prop},tailQ P idMk G X R C qs A m z H c T S K→SR P G N0 w0 I0 S E w→TR E w T a.tmps →
  (∀ x T' S' E' w' a',K x T' S'→SR P G N0 w0 I0 S' E' w'→Env.Le E E' w w'→TR E' w' T' a'.tmps→a'.defers = a.defers→Q x.to a' w') →
  (∀ b T' S' E' w' a',codeAt z c = some b→H T' S'→SR P G N0 w0 I0 S' E' w'→Env.Le E E' w w'→TR E' w' T' a'.tmps→a'.defers = a.defers→b.wp P Q a' w')→c.wp P Q a w:=by
 intro c
 have base:∀ (c:Code) {T:List AV} {S:St} {K:AExit→List AV→St→Prop} {E:Env} {a:Act} {w:World} {Q:Exit→Act→World→Prop},qcodeW P idMk G X R C qs A m c T S K→SR P G N0 w0 I0 S E w→TR E w T a.tmps →
   (∀ x T' S' E' w' a',K x T' S'→SR P G N0 w0 I0 S' E' w'→Env.Le E E' w w'→TR E' w' T' a'.tmps→a'.defers = a.defers→Q x.to a' w')→c.wp P Q a w:=fun c _ _ _ E a w Q h hS hT hQ =>
  qcodeW_ok (N0:=N0) (w0:=w0) (I0:=I0) hm hR hC A m c _ _ _ E a w Q h hS hT fun x T' S' E' w' a' k0 k1 k2 k3 k4=>hQ x T' S' E' w' a' k0 k1 k2 k3 k4
 induction c with
 | seq ca cb _ ihb =>
  intro T S K E a w Q h hS hT hQ hH
  simp only [tailQ] at h
  refine wp_seq (base ca h hS hT fun x T' S' E' w' a' hk k1 k2 k3 k4=>?_)
  cases x with
  | exit id=>exact hQ (.exit id) T' S' E' w' a' hk k1 k2 k3 k4
  | goto l=>exact hQ (.goto l) T' S' E' w' a' hk k1 k2 k3 k4
  | ret=>exact hQ .ret T' S' E' w' a' hk k1 k2 k3 k4
  | normal =>
   simp only at hk
   split at hk
   ·rename_i hz
    exact hH cb T' S' E' w' a' (by simp only [codeAt,hz,if_true]) hk k1 k2 k3 k4
   ·rename_i hz
    exact ihb hk k1 k3 (fun x T2 S2 E2 w2 a2 l0 l1 l2 l3 l4=>hQ x T2 S2 E2 w2 a2 l0 l1 (k2.trans l2) l3 (l4.trans k4)) fun b T2 S2 E2 w2 a2 l0 l1 l2 l3 l4 l5=>hH b T2 S2 E2 w2 a2 (by simp only [codeAt,hz]; exact l0) l1 l2 (k2.trans l3) l4 (l5.trans k4)
 | _=>intro T S K E a w Q h hS hT hQ hH; exact base _ h hS hT hQ
theorem tailQ_of {X:Shapes} {R:Callee} {C:CCallee} (hm:P.follows .mixedOrders = true) (hR:CalleeOk P G R) (hC:ICalleeOk P G (lowC C)) {f:FuncId} {fn:Func} {c:Code} (hf:P.funcs[f]? = some fn) (hb:fn.body = some c) (hg:goodFn P f) {s:Spec}
  (h:∀ args r,s args = some r→∃ qs A m z H,r.2 = []∧TqOk P G X R C qs A m z H f args r.1 ∧
   ∀ (wb:World) (Eb:Env) (b:Code) (T:List AV) (S:St) (E:Env) (w:World) (a:Act),codeAt z c = some b→H T S→SR P G (· < wb.heap.size) wb Eb.I S E w→Env.Le ⟨Eb.I,fun _=>none,fun _ _ _=>False⟩ E wb w→TR E w T a.tmps→a.defers = [] →
    b.wp P (bodyPost P fn fun e w'=>∃ v,e = .returned v∧Res P Eb wb w' r.1 [] v) a w):SpecOk P G f s:=by
 intro g args r lv hr
 simp only at hr
 split at hr
 case isFalse=>cases hr
 rename_i e
 subst e
 obtain ⟨qs,A,m,z,H,hlv,hA,hH⟩:=h args _ hr
 simp only at hlv
 subst hlv
 refine fun E w vs hI hG hn hv hcl=>.inl ⟨hg,?_⟩
 have hS0:SR P G (· < w.heap.size) w E.I ⟨[],[]⟩ ⟨E.I,fun _=>none,fun _ _ _=>False⟩ w:=
  ⟨BelowQ.refl _ _,fun _ h=>h,hI,fun b o h _=>h,fun id b h=>(nomatch h),fun id id' b h=>(nomatch h),fun id cs h=>(nomatch h),fun g e hg=>⟨(hG g e hg).1,rep_elt_rebase (hG g e hg).2.1 _ _,(hG g e hg).2.2⟩,fun id h=>(nomatch h),fun t n v h=>False.elim h,fun t n v h=>False.elim h,fun t n e h=>(nomatch h)⟩
 have hv0:∀ (i:Nat) (c:AV) (v:Value),args[i]? = some c→vs[i]? = some v→Rep ⟨E.I,fun _=>none,fun _ _ _=>False⟩ w c v:=fun i c v hi hv'=>(hv i c v hi hv').rebase (hcl c (List.mem_of_getElem? hi)) _ _
 have hT0:TR ⟨E.I,fun _=>none,fun _ _ _=>False⟩ w (args ++ List.replicate (fn.ntmps - args.length) (.tup [])) (vs ++ Array.replicate (fn.ntmps - vs.size) undef):=by
  refine ⟨by simp [hn],fun i c v hi hv'=>?_⟩
  by_cases hlt:i < args.length
  ·rw [List.getElem?_append_left hlt] at hi
   rw [Array.getElem?_append_left (by omega)] at hv'
   exact hv0 i c v hi hv'
  ·rw [List.getElem?_append_right (by omega),List.getElem?_replicate] at hi
   rw [Array.getElem?_append_right (by omega),Array.getElem?_replicate] at hv'
   split at hi
   ·split at hv'
    ·simp at hi hv'; subst hi; subst hv'
     exact rep_undef
    ·cases hv'
   ·cases hi
 have hout:=hA.out
 unfold tqW at hout
 rw [hf] at hout
 simp only [hb] at hout
 have fin:∀ (E':Env) (S':St) (w':World) (v:Value),SR P G (· < w.heap.size) w E.I S' E' w'→Env.Le ⟨E.I,fun _=>none,fun _ _ _=>False⟩ E' w w'→(∀ B K,Rep ⟨E'.I,B,K⟩ w' r v)→Res P E w w' r [] v:=fun E' S' w' v h1 h2 h3 =>
  ⟨E'.I,fun b o hi=>(h2.I b o hi).1,fun b o hi=>by
   rcases Nat.lt_or_ge b w.heap.size with hlt | hge
   ·exact .inl (h1.Iold b o hi hlt)
   ·exact .inr ⟨hge,h1.Ilt b o hi⟩,h1.below.below,.inl ⟨rfl,h3⟩⟩
 refine calls_of_wp hf hb (tailQ_wp (N0:=(· < w.heap.size)) (w0:=w) (I0:=E.I) hm hR hC c hout hS0 hT0 (fun x T S1 E' w' a' hk h1 h2 h3 h4=>?_) fun b T' S' E' w' a' h0 h1 h2 h3 h4 h5=>?_)
 ·cases x with
  | exit id=>exact hk.elim
  | goto l=>exact hk.elim
  | normal =>
   obtain ⟨us,hus,hL⟩:=someK_imp hk
   obtain ⟨v,hv,hrep⟩:=results_run h1 h3 hus
   exact ⟨h4,v,hv,v,rfl,fin E' S1 w' v h1 h2 fun B K=>rep_closed2 (hL.lax.rep hrep) hL.closed B K⟩
  | ret =>
   obtain ⟨us,hus,hL⟩:=someK_imp hk
   obtain ⟨v,hv,hrep⟩:=results_run h1 h3 hus
   exact ⟨h4,v,hv,v,rfl,fin E' S1 w' v h1 h2 fun B K=>rep_closed2 (hL.lax.rep hrep) hL.closed B K⟩
 ·exact hH w E b T' S' E' w' a' h0 h1 h2 h3 h4 h5
end
section
variable {P : Program} {G : Glob} {E : Env} {w : World}
def wkA (z:Nat):AV→AV
 | .sl _ [] _=>.sl z [] .no
 | .sl sz (e :: es) _=>.sl sz (e :: es) .no
 | a=>a
def wkL:List Nat→List AV→List AV
 | z :: zs,a :: xs=>wkA z a :: wkL zs xs
 | _,xs=>xs
theorem rep_wk {z:Nat} {a:AV} {v:Value} (h:Rep E w a v):Rep E w (wkA z a) v:=by
 unfold wkA
 split
 ·cases h with
  | sl _ _ _ A cap u hcap hmax hA hsz hcl ho hr h1 =>
   exact .sl z [] .no A cap u hcap hmax (.inl rfl) (by simp) (by simp) trivial (fun i e j c hi=>by simp at hi) h1
 ·cases h with
  | sl _ _ _ A cap u hcap hmax hA hsz hcl ho hr h1 =>
   exact .sl _ _ .no A cap u hcap hmax hA hsz hcl trivial hr h1
 ·exact h
theorem closed_wk {z:Nat} {a:AV} (h:a.closed1 = true):(wkA z a).closed1 = true:=by
 unfold wkA
 split
 ·rfl
 ·rfl
 ·exact h
theorem wkL_length:∀ (zs:List Nat) (xs:List AV),(wkL zs xs).length = xs.length
 | [],xs=>by simp [wkL]
 | z :: zs,[]=>by simp [wkL]
 | z :: zs,a :: xs=>by simp [wkL,wkL_length zs xs]
theorem wkL_at:∀ (zs:List Nat) (xs:List AV) (i:Nat) (c:AV),(wkL zs xs)[i]? = some c→∃ a,xs[i]? = some a∧(c = a∨∃ z,c = wkA z a)
 | [],xs,i,c,h=>⟨c,by simpa [wkL] using h,.inl rfl⟩
 | z :: zs,[],i,c,h=>by simp [wkL] at h
 | z :: zs,a :: xs,0,c,h=>by
  simp [wkL] at h
  exact ⟨a,by simp,.inr ⟨z,h.symm⟩⟩
 | z :: zs,a :: xs,i + 1,c,h=>by
  simp only [wkL,List.getElem?_cons_succ] at h
  simpa using wkL_at zs xs i c h
theorem spec_wk {f:FuncId} {s:Spec} (zs:List Nat) (h:∀ args r,s args = some r→SpecOk P G f (fun a=>open Classical in if a = wkL zs args then some r else none)):SpecOk P G f s:=by
 intro g args r lv hr
 simp only at hr
 split at hr
 ·rename_i e
  subst e
  have:=h args (r,lv) hr g (wkL zs args) r lv (by simp)
  intro E w vs hI hG hn hv hcl
  refine this E w vs hI hG (by rw [wkL_length]; exact hn) (fun i c v hi hv'=>?_) fun c hc=>?_
  ·obtain ⟨a,ha,hx⟩:=wkL_at zs args i c hi
   rcases hx with rfl | ⟨z,rfl⟩
   ·exact hv i _ v ha hv'
   ·exact rep_wk (hv i _ v ha hv')
  ·obtain ⟨i,hi,rfl⟩:=List.mem_iff_getElem.1 hc
   obtain ⟨a,ha,hx⟩:=wkL_at zs args i _ (List.getElem?_eq_getElem hi)
   rcases hx with hx | ⟨z,hx⟩
   ·rw [hx]; exact hcl a (List.mem_of_getElem? ha)
   ·rw [hx]; exact closed_wk (hcl a (List.mem_of_getElem? ha))
 ·cases hr
theorem spec_ofW {X:Shapes} {R:Callee} {C:CCallee} (zs:List Nat) (hm:P.follows .mixedOrders = true) (hR:CalleeOk P G R) (hC:ICalleeOk P G (lowC C)) {m:List Bool} {f:FuncId} {s:Spec}
  (h:∀ args r,s args = some r→∃ A,PureOk P G X R C A m f (wkL zs args) r):SpecOk P G f s:=
 spec_wk zs fun args r hr=>spec_of hm hR hC fun a r' hr'=>by
  split at hr'
  ·rename_i e; subst e; injection hr' with hr'; subst hr'; exact h args r hr
  ·cases hr'
theorem lax_ofW {X:Shapes} {R:Callee} {C:CCallee} (zs:List Nat) (hm:P.follows .mixedOrders = true) (hR:CalleeOk P G R) (hC:ICalleeOk P G (lowC C)) {m:List Bool} {f:FuncId} {s:Spec}
  (h:∀ args r,s args = some r→∃ A,LaxOk P G X R C A m f (wkL zs args) r):SpecOk P G f s:=
 spec_wk zs fun args r hr=>lax_of hm hR hC fun a r' hr'=>by
  split at hr'
  ·rename_i e; subst e; injection hr' with hr'; subst hr'; exact h args r hr
  ·cases hr'
end
end Go.Abs
namespace Go.Abs
open Go.ChangeShapes Go.WideShapes Go.ChangeAt Go.RowKit Go.Deep Go.ChangeMaps
section
variable {H : Type} {enc : TypeId × Value → H} {P : Program} {W : World}
theorem glob_size (hsh:W.ShapedOpen P) {g n:Nat} (hg:g < P.globals.size) (hz:(((begin P (fun _ _=>0) default).world.heap[g]?).bind Obj.row?).map (fun x=>x.1.size) = some n):g < W.heap.size∧W.cell? ⟨g,n,none⟩ = none:=by
 obtain ⟨h1,_⟩:=hsh
 cases hx:((begin P (fun _ _=>0) default).world.heap[g]?).bind Obj.row? with
 | none=>rw [hx] at hz; cases hz
 | some x =>
  obtain ⟨zero,t⟩:=x
  rw [hx] at hz
  simp only [Option.map_some,Option.some.injEq] at hz
  obtain ⟨cs,hcs,hsz,_⟩:=h1 g zero t hg hx
  refine ⟨(Array.getElem?_eq_some_iff.1 hcs).1,?_⟩
  unfold World.cell?
  simp only [hcs]
  have:cs[n]? = none:=Array.getElem?_eq_none (by omega)
  simpa using this
theorem int_rng {n:Int} (h:(Lit.int .i64 n).wf = true):-9223372036854775808≤n∧n < 9223372036854775808:=by
 simp [Lit.wf,IntKind.min,IntKind.max,IntKind.signed,IntKind.bits] at h
 omega
end
section
variable {H : Type} {enc : TypeId × Value → H} {P : Program} {W : World}
end
end Go.Abs
