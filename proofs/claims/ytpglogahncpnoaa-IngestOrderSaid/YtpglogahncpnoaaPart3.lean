/- Own texts, part 3. -/
import Derived.Test.YtpglogahncpnoaaPart2
import Derived.Deep.LoopGhost
import Derived.LoopN
import Derived.Lib.BytesEntry
import Derived.Lib.IndexMore
import Derived.Laws.Externs
import Derived.KernelRfl
import Derived.ProofKit
import Derived.OpenShut
import Derived.ChangeMaps5
import Derived.JoinedCond
import Derived.Deep.Slices
import Derived.Deep.DeepHandedRow

namespace Go.Abs
open Go.RowKit
inductive Sh0 where
 | int (k:IntKind)
 | bool
 | str
 | sl (sz:Nat) (o:Own)
 | err
 | is (v:AV)
inductive Sh1 where
 | one (s:Sh0)
 | agg (l:List Sh0)
inductive Sh where
 | val (s:Sh1)
 | tup (l:List Sh1)
def ex0:Sh0→(AV→Prop)→Prop
 | .int k,K=>∃ n,K (.int k n)
 | .bool,K=>∃ b,K (.bool b)
 | .str,K=>∃ s,K (.str s)
 | .sl sz o,K=>∃ es,K (.sl sz es o)
 | .err,K=>K .ifc∨K (.lit .nilIface)
 | .is v,K=>K v
def exs0:List Sh0→(List AV→Prop)→Prop
 | [],K=>K []
 | s :: l,K=>ex0 s fun v=>exs0 l fun vs=>K (v :: vs)
def ex1:Sh1→(AV→Prop)→Prop
 | .one s,K=>ex0 s K
 | .agg l,K=>exs0 l fun cs=>K (.agg cs)
def exs1:List Sh1→(List AV→Prop)→Prop
 | [],K=>K []
 | s :: l,K=>ex1 s fun v=>exs1 l fun vs=>K (v :: vs)
def exSh:Sh→(AV→Prop)→Prop
 | .val s,K=>ex1 s K
 | .tup l,K=>exs1 l fun vs=>K (.tup vs)
theorem ex0_imp {s:Sh0} {K:AV→Prop} (h:ex0 s K):∃ v,K v:=by
 cases s with
 | int k=>obtain ⟨n,h⟩:=h; exact ⟨_,h⟩
 | bool=>obtain ⟨n,h⟩:=h; exact ⟨_,h⟩
 | str=>obtain ⟨n,h⟩:=h; exact ⟨_,h⟩
 | sl sz o=>obtain ⟨n,h⟩:=h; exact ⟨_,h⟩
 | err=>rcases h with h | h <;> exact ⟨_,h⟩
 | is v=>exact ⟨_,h⟩
theorem exs0_imp:∀ {l:List Sh0} {K:List AV→Prop},exs0 l K→∃ v,K v
 | [],_,h=>⟨_,h⟩
 | s :: l,K,h=>by
  obtain ⟨v,h⟩:=ex0_imp h
  obtain ⟨vs,h⟩:=exs0_imp h
  exact ⟨_,h⟩
theorem ex1_imp {s:Sh1} {K:AV→Prop} (h:ex1 s K):∃ v,K v:=by
 cases s with
 | one s=>exact ex0_imp h
 | agg l=>obtain ⟨vs,h⟩:=exs0_imp h; exact ⟨_,h⟩
theorem exs1_imp:∀ {l:List Sh1} {K:List AV→Prop},exs1 l K→∃ v,K v
 | [],_,h=>⟨_,h⟩
 | s :: l,K,h=>by
  obtain ⟨v,h⟩:=ex1_imp h
  obtain ⟨vs,h⟩:=exs1_imp h
  exact ⟨_,h⟩
theorem exSh_imp {s:Sh} {K:AV→Prop} (h:exSh s K):∃ v,K v:=by
 cases s with
 | val s=>exact ex1_imp h
 | tup l=>obtain ⟨vs,h⟩:=exs1_imp h; exact ⟨_,h⟩
def forkB (v:AV) (K:AV→Prop):Prop:=
 match v with
 | .bool b=>(b = true→K (.bool true))∧(b = false→K (.bool false))
 | v=>K v
theorem forkB_imp {v:AV} {K:AV→Prop} (h:forkB v K):K v:=by
 cases v with
 | bool b=>cases b with
  | true=>exact h.1 rfl
  | false=>exact h.2 rfl
 | _=>exact h
def leaf (P:Program) (t:TypeId):Option Sh0:=
 match P.underlying t with
 | some .bool=>some .bool
 | some (.int k)=>some (.int k)
 | some .string=>some .str
 | some (.slice e)=>(sizeA P e).map fun s=>.sl s .no
 | some (.interface _)=>some .err
 | _=>none
def leaves (P:Program):Nat→TypeId→Option (List Sh0)
 | 0,_=>none
 | d + 1,t =>
  match P.underlying t with
  | some (.struct fs)=>(fs.toList.mapM fun f=>leaves P d f.type).map List.flatten
  | some (.array n e)=>(leaves P d e).map fun l=>(List.replicate n l).flatten
  | _=>(leaf P t).map fun s=>[s]
def shOf (P:Program) (t:TypeId):Option Sh:=
 match aggA P t with
 | some true=>(leaves P 5 t).map fun l=>.val (.agg l)
 | some false=>(leaf P t).map fun s=>.val (.one s)
 | none=>none
def takeAt (P:Program) (t:TypeId) (es:List AV) (i j:Nat):Option AV:=
 match es[i]? with
 | some e=>takeA (aggA P t) (sizeA P t) e.cells j
 | none=>none
def someK {α:Type} (x:Option α) (K:α→Prop):Prop:=
 match x with
 | some v=>K v
 | none=>False
theorem someK_imp {α:Type} {x:Option α} {K:α→Prop} (h:someK x K):∃ v,x = some v∧K v:=by
 cases x with
 | none=>exact h.elim
 | some v=>exact ⟨v,rfl,h⟩
abbrev Shapes:=FuncId→Option (Sh × Option TypeId)
def shAt (P:Program) (X:Shapes) (t:TypeId):Option Sh:=
 match X (2000000 + t) with
 | some s=>some s.1
 | none=>shOf P t
def loadW (P:Program) (X:Shapes) (S:St) (t:TypeId) (a:AV) (K:AV→Prop):Prop:=
 match a with
 | .elt _ es i j=>someK (shAt P X t) fun sh=>exSh sh fun v=>takeAt P t es i j = some v∧forkB v K
 | .ptr b o =>
  match S.boxes[b]? with
  | some (some cs) =>
   if 40 < cs.length then someK (shAt P X t) fun sh=>exSh sh fun v=>takeA (aggA P t) (sizeA P t) cs o = some v∧forkB v K
   else someK (if isRow cs then takeA (aggA P t) (sizeA P t) cs o else none) fun v=>forkB v K
  | _=>False
 | .mel b sz i j =>
  match S.boxes[b]? with
  | some (some [.tup [.bool _,.sl sz' es .no]])=>if sz' = sz then someK (shAt P X t) fun sh=>exSh sh fun v=>takeAt P t es i j = some v∧forkB v K else False
  | _=>False
 | _=>False
theorem loadW_imp {P:Program} {X:Shapes} {S:St} {t:TypeId} {a:AV} {K:AV→Prop} (h:loadW P X S t a K):∃ v,loadA P S t a = some v∧K v:=by
 unfold loadW at h
 unfold loadA
 split at h
 ·obtain ⟨sh,_,h⟩:=someK_imp h
  obtain ⟨v,h1,h2⟩:=exSh_imp h
  exact ⟨v,h1,forkB_imp h2⟩
 ·split at h
  ·rename_i b o cs hb
   simp only [hb]
   split at h
   ·rename_i hlen
    have hr:isRow cs = true:=by
     unfold isRow
     split
     ·simp at hlen
     ·rfl
    obtain ⟨sh,_,h⟩:=someK_imp h
    obtain ⟨v,h1,h2⟩:=exSh_imp h
    exact ⟨v,by rw [if_pos hr]; exact h1,forkB_imp h2⟩
   ·obtain ⟨v,h1,h2⟩:=someK_imp h
    exact ⟨v,h1,forkB_imp h2⟩
  ·exact h.elim
 ·split at h
  ·rename_i f sz' es hb
   simp only [hb]
   split at h
   ·rename_i hsz
    rw [if_pos hsz]
    obtain ⟨sh,_,h⟩:=someK_imp h
    obtain ⟨v,h1,h2⟩:=exSh_imp h
    exact ⟨v,h1,forkB_imp h2⟩
   ·exact h.elim
  ·exact h.elim
 ·exact h.elim
def storeW (P:Program) (S:St) (t:TypeId) (a x:AV) (K:St→Prop):Prop:=
 match a with
 | .mel b sz i j =>
  match S.boxes[b]? with
  | some (some [.tup [.bool true,.sl sz' es .no]]) =>
   i < es.length ∧
   if sz' = sz∧x.strip1.closed1∧sizeA P t = some x.strip1.cells.length∧j + x.strip1.cells.length≤sz∧0 < x.strip1.cells.length then
    K { S with boxes:=S.boxes.set b (some (ownC sz (es.set i (keptSetC (es.getD i .junk) j x.strip1.cells)))) }
   else False
  | _=>False
 | a=>someK (storeA P S t a x) K
theorem storeW_imp {P:Program} {S:St} {t:TypeId} {a x:AV} {K:St→Prop} (h:storeW P S t a x K):∃ S',storeA P S t a x = some S'∧K S':=by
 unfold storeW at h
 split at h
 ·split at h
  ·rename_i sz' es hb
   obtain ⟨hi,h⟩:=h
   split at h
   ·rename_i hc
    refine ⟨_,?_,h⟩
    have hg:=List.getElem?_eq_getElem hi
    unfold storeA
    simp only [hb,hg]
    rw [if_pos hc]
    rw [List.getD_eq_getElem?_getD,hg]; rfl
   ·exact h.elim
  ·exact h.elim
 ·exact someK_imp h
/-! what is handed on -/
def res0W (S:St) (v:AV) (K:AV→Prop):Prop:=
 match v with
 | .ms b _ n =>
  match S.boxes[b]? with
  | some (some [.tup [.bool false,.sl sz es .no]])=>es.length = n∧K (.sl sz es .no)
  | _=>False
 | v=>K v
def resLW (f:AV→(AV→Prop)→Prop):List AV→(List AV→Prop)→Prop
 | [],K=>K []
 | v :: l,K=>f v fun u=>resLW f l fun us=>K (u :: us)
def res1W (S:St) (v:AV) (K:AV→Prop):Prop:=
 match v with
 | .agg cs=>resLW (res0W S) cs fun ds=>K (.agg ds)
 | v=>res0W S v K
def res2W (S:St) (v:AV) (K:AV→Prop):Prop:=
 match v with
 | .tup cs=>resLW (res1W S) cs fun ds=>K (.tup ds)
 | v=>res1W S v K
theorem res0W_imp {S:St} {v:AV} {K:AV→Prop} (h:res0W S v K):∃ u,res0 S v = some u∧K u:=by
 unfold res0W at h
 split at h
 ·split at h
  ·rename_i hb
   refine ⟨_,?_,h.2⟩
   unfold res0
   simp only [hb]
   rw [if_pos h.1]
  ·exact h.elim
 ·rename_i hn
  refine ⟨v,?_,h⟩
  unfold res0
  split
  ·exact absurd rfl (hn _ _ _)
  ·rfl
theorem resLW_imp {f:AV→(AV→Prop)→Prop} {g:AV→Option AV} (hf:∀ v K,f v K→∃ u,g v = some u∧K u):∀ {l:List AV} {K:List AV→Prop},resLW f l K→∃ us,resL g l = some us∧K us
 | [],K,h=>⟨[],rfl,h⟩
 | v :: l,K,h=>by
  obtain ⟨u,h1,h⟩:=hf _ _ h
  obtain ⟨us,h2,h⟩:=resLW_imp hf h
  exact ⟨u :: us,by simp only [resL,h1,h2],h⟩
theorem res1W_imp {S:St} {v:AV} {K:AV→Prop} (h:res1W S v K):∃ u,res1 S v = some u∧K u:=by
 unfold res1W at h
 split at h
 ·obtain ⟨us,h1,h2⟩:=resLW_imp (f:=res0W S) (fun _ _=>res0W_imp) h
  exact ⟨_,by simp only [res1,h1,Option.map_some],h2⟩
 ·rename_i hn
  obtain ⟨u,h1,h2⟩:=res0W_imp h
  refine ⟨u,?_,h2⟩
  unfold res1
  split
  ·exact absurd rfl (hn _)
  ·exact h1
theorem res2W_imp {S:St} {v:AV} {K:AV→Prop} (h:res2W S v K):∃ u,res2 S v = some u∧K u:=by
 unfold res2W at h
 split at h
 ·obtain ⟨us,h1,h2⟩:=resLW_imp (f:=res1W S) (fun _ _=>res1W_imp) h
  exact ⟨_,by simp only [res2,h1,Option.map_some],h2⟩
 ·rename_i hn
  obtain ⟨u,h1,h2⟩:=res1W_imp h
  refine ⟨u,?_,h2⟩
  unfold res2
  split
  ·exact absurd rfl (hn _)
  ·exact h1
def giveW (S:St) (v:AV) (K:AV→St→Prop):Prop:=
 match msIds2 v with
 | []=>K v S
 | ids=>someK (frzL S ids) fun S'=>res2W S' v fun u=>K u S'
theorem giveW_imp {S:St} {v:AV} {K:AV→St→Prop} (h:giveW S v K):∃ u S',giveA S v = some (u,S')∧K u S':=by
 unfold giveW at h
 unfold giveA
 split at h
 ·rename_i he
  exact ⟨v,S,by simp only [he],h⟩
 ·rename_i hn
  obtain ⟨S',h1,h⟩:=someK_imp h
  obtain ⟨u,h2,h⟩:=res2W_imp h
  refine ⟨u,S',?_,h⟩
  split
  ·rename_i he; exact absurd he hn
  ·simp only [h1,h2,Option.map_some]
def eqFieldsB (P:Program) (xs ys:List AV):List Field→Option Bool
 | []=>some true
 | f :: fs =>
  if f.name = "_" then none else
  match subA P f.type xs f.offset,subA P f.type ys f.offset with
  | some x,some y =>
   match eqScalA P f.type x y,eqFieldsB P xs ys fs with
   | some a,some b=>some (a && b)
   | _,_=>none
  | _,_=>none
def equalB (P:Program) (t:TypeId) (x y:AV):Option Bool:=
 match x,y with
 | .agg xs,.agg ys =>
  if P.eqGuardType P.depth t then none else
  match P.underlying t with
  | some (.struct fs)=>if P.stoodInHeld t || !(fs.toList.length < 39) then none else eqFieldsB P xs ys fs.toList
  | _=>none
 | _,_=>eqScalA P t x y
def binW (P:Program) (op:BinOp) (t:TypeId) (kc:Bool) (x y:AV) (K:AV→Prop):Prop:=
 match x,y with
 | .int k a,.int k' b =>
  match op with
  | .shl=>0≤b∧K (.int k (k.wrap (a * 2 ^ (min b.toNat k.bits))))
  | .shr=>0≤b∧K (.int k (a.fdiv (2 ^ (min b.toNat k.bits))))
  | .quo=>if k = k' then b ≠ 0∧K (.int k (k.wrap (a.tdiv b))) else False
  | .rem=>if k = k' then b ≠ 0∧K (.int k (a.tmod b)) else False
  | op=>if k = k' then someK (intA op k a b) fun v=>forkB v K else False
 | .str a,.str b =>
  match op with
  | .add=>a.length + b.length≤9223372036854775807∧K (.str (a ++ b))
  | op=>someK (strA op a b) fun v=>forkB v K
 | .agg xs,.agg ys =>
  match op with
  | .eql=>someK (equalB P t (.agg xs) (.agg ys)) fun b=>forkB (.bool b) K
  | .neq=>someK (equalB P t (.agg xs) (.agg ys)) fun b=>forkB (.bool !b) K
  | _=>False
 | .sl _sz es o,.sl _sz' [] .nil =>
  match P.underlying t,op,o with
  | some (.slice _),.eql,.nil=>K (.bool true)
  | some (.slice _),.neq,.nil=>K (.bool false)
  | some (.slice _),.eql,_=>es.isEmpty = false∧K (.bool false)
  | some (.slice _),.neq,_=>es.isEmpty = false∧K (.bool true)
  | _,_,_=>False
 | x,y=>someK (binA P op t kc x y) fun v=>forkB v K
theorem subA_agg {P:Program} {t:TypeId} {xs:List AV} {o:Nat} {x:AV} (h:subA P t xs o = some x) (d:Nat) (y:AV) (b:Bool) (hb:eqScalA P t x y = some b):eqA P (d + 1) t x y = some b:=by
 cases x <;> cases y <;> first | (simpa [eqA] using hb) | (simp [eqScalA] at hb)
theorem eqFieldsB_ok {P:Program} {xs ys:List AV}:∀ {fs:List Field} {b:Bool} {d:Nat},fs.length < d→eqFieldsB P xs ys fs = some b→eqFieldsA P d xs ys fs = some b
 | [],b,d,_,h=>by cases d <;> simpa [eqFieldsB,eqFieldsA] using h
 | f :: fs,b,0,hd,h=>by simp at hd
 | f :: fs,b,d + 1,hd,h=>by
  simp only [eqFieldsB] at h
  simp only [eqFieldsA]
  split at h
  ·cases h
  ·rename_i hn
   simp only [hn,if_false]
   split at h
   ·rename_i x y hx hy
    simp only [hx,hy]
    split at h
    ·rename_i p q hp hq
     simp only [Option.some.injEq] at h
     subst h
     obtain ⟨d,rfl⟩:∃ e,d = e + 1:=⟨d - 1,by simp at hd; omega⟩
     rw [subA_agg hx d y p hp]
     cases p with
     | true=>simpa using eqFieldsB_ok (by simpa using hd) hq
     | false=>rfl
    ·cases h
   ·cases h
theorem equalB_ok {P:Program} {t:TypeId} {xs ys:List AV} {b:Bool} (h:equalB P t (.agg xs) (.agg ys) = some b):equalA P t (.agg xs) (.agg ys) = some b:=by
 simp only [equalB] at h
 simp only [equalA]
 split at h
 ·cases h
 ·rename_i hg
  simp only [hg,Bool.false_eq_true,if_false]
  split at h
  ·rename_i fs hf
   split at h
   ·cases h
   ·rename_i hs
    simp only [Bool.or_eq_true,not_or,Bool.not_eq_true,Bool.not_eq_false',decide_eq_true_eq] at hs
    show eqA P (39 + 1) t _ _ = _
    simp only [eqA,hf,hs.1,Bool.false_eq_true,if_false]
    exact eqFieldsB_ok hs.2 h
  ·cases h
theorem binW_imp {P:Program} {op:BinOp} {t:TypeId} {kc:Bool} {x y:AV} {K:AV→Prop} (h:binW P op t kc x y K):∃ v,binA P op t kc x y = some v∧K v:=by
 have fk:∀ {z:Option AV},(someK z fun v=>forkB v K)→∃ v,z = some v∧K v:=fun h=>by
  obtain ⟨v,h1,h2⟩:=someK_imp h
  exact ⟨v,h1,forkB_imp h2⟩
 unfold binW at h
 split at h
 ·rename_i k a k' b
  by_cases hk:k = k'
  ·subst hk
   cases op <;> simp only [if_true] at h <;> simp only [binA,if_true]
   case shl=>simp only [shiftA]; rw [if_neg (by omega)]; exact ⟨_,rfl,h.2⟩
   case shr=>simp only [shiftA]; rw [if_neg (by omega)]; exact ⟨_,rfl,h.2⟩
   case quo=>exact ⟨_,by simp only [intA]; rw [if_neg h.1],h.2⟩
   case rem=>exact ⟨_,by simp only [intA]; rw [if_neg h.1],h.2⟩
   all_goals exact fk h
  ·cases op <;> simp only [if_neg hk] at h <;> simp only [binA]
   case shl=>simp only [shiftA]; rw [if_neg (by omega)]; exact ⟨_,rfl,h.2⟩
   case shr=>simp only [shiftA]; rw [if_neg (by omega)]; exact ⟨_,rfl,h.2⟩
 ·rename_i a b
  cases op <;> simp only at h <;> simp only [binA]
  case add=>exact ⟨_,by simp only [strA]; rw [if_pos h.1],h.2⟩
  all_goals exact fk h
 ·cases op <;> simp only at h <;> first | exact h.elim | skip
  ·obtain ⟨b,h1,h2⟩:=someK_imp h
   exact ⟨_,by simp only [binA,equalB_ok h1,Option.map_some],forkB_imp h2⟩
  ·obtain ⟨b,h1,h2⟩:=someK_imp h
   exact ⟨_,by simp only [binA,equalB_ok h1,Option.map_some],forkB_imp h2⟩
 ·split at h
  ·rename_i hu; exact ⟨_,by simp only [binA,hu,nilEqA,Option.map_some],h⟩
  ·rename_i hu; exact ⟨_,by simp only [binA,hu,nilEqA,Option.map_some]; rfl,h⟩
  ·rename_i o _ _ hu hne
   refine ⟨.bool false,?_,h.2⟩
   simp only [binA,hu,nilEqA]
   split
   ·rename_i he; rw [h.1] at he; cases he
   ·rfl
  ·rename_i o _ _ hu hne
   refine ⟨.bool true,?_,h.2⟩
   simp only [binA,hu,nilEqA]
   split
   ·rename_i he; rw [h.1] at he; cases he
   ·rfl
  ·exact h.elim
 ·exact fk h
def indexAddrW (P:Program) (t:TypeId) (x i:AV) (K:AV→Prop):Prop:=
 match P.underlying t,i with
 | some (.slice e),.int _ n =>
  match x with
  | .sl sz es _=>(0≤n∧n < es.length)∧(if sizeA P e = some sz then K (.elt sz es n.toNat 0) else False)
  | .ms b sz len=>(0≤n∧n < len)∧(if sizeA P e = some sz then K (.mel b sz n.toNat 0) else False)
  | _=>False
 | some (.array len e),.int _ n =>
  (0≤n∧n < len) ∧
  match sizeA P e,x with
  | some s,.ptr b o=>K (.ptr b (o + n.toNat * s))
  | some s,.elt sz es i j=>K (.elt sz es i (j + n.toNat * s))
  | _,_=>False
 | _,_=>False
theorem indexAddrW_imp {P:Program} {t:TypeId} {x i:AV} {K:AV→Prop} (h:indexAddrW P t x i K):∃ v,indexAddrA P t x i = some v∧K v:=by
 unfold indexAddrW at h
 split at h
 ·rename_i e k n hu
  split at h
  ·obtain ⟨h1,h2⟩:=h
   split at h2
   ·rename_i hs
    exact ⟨_,by simp only [indexAddrA,hu]; rw [if_pos ⟨h1.1,h1.2,hs⟩],h2⟩
   ·exact h2.elim
  ·obtain ⟨h1,h2⟩:=h
   split at h2
   ·rename_i hs
    exact ⟨_,by simp only [indexAddrA,hu]; rw [if_pos ⟨h1.1,h1.2,hs⟩],h2⟩
   ·exact h2.elim
  ·exact h.elim
 ·rename_i len e k n hu
  obtain ⟨h1,h2⟩:=h
  split at h2
  ·rename_i s b o hs
   exact ⟨_,by simp only [indexAddrA,hu,hs]; rw [if_pos h1],h2⟩
  ·rename_i s sz es i j hs
   exact ⟨_,by simp only [indexAddrA,hu,hs]; rw [if_pos h1],h2⟩
  ·exact h2.elim
 ·exact h.elim
def indexW (P:Program) (t:TypeId) (x i:AV) (K:AV→Prop):Prop:=
 match P.underlying t,x,i with
 | some .string,.str s,.int _ n=>0≤n∧∃ c,s[n.toNat]? = some c∧K (.int .u8 c.toNat)
 | some (.array _ _),.agg cs,.int k n=>someK (indexA P t (.agg cs) (.int k n)) K
 | _,_,_=>False
theorem indexW_imp {P:Program} {t:TypeId} {x i:AV} {K:AV→Prop} (h:indexW P t x i K):∃ v,indexA P t x i = some v∧K v:=by
 unfold indexW at h
 split at h
 ·rename_i s k n hu
  obtain ⟨h1,c,h2,h3⟩:=h
  exact ⟨_,by simp only [indexA,hu]; rw [if_pos h1,h2]; rfl,h3⟩
 ·exact someK_imp h
 ·exact h.elim
def boundW (x:Option AV) (d:Nat) (K:Nat→Prop):Prop:=
 match x with
 | none=>K d
 | some (.int _ n)=>0≤n∧K n.toNat
 | some _=>False
theorem boundW_imp {x:Option AV} {d:Nat} {K:Nat→Prop} (h:boundW x d K):∃ n,boundA x d = some n∧K n:=by
 unfold boundW at h
 split at h
 ·exact ⟨_,rfl,h⟩
 ·exact ⟨_,by simp only [boundA]; rw [if_pos h.1],h.2⟩
 ·exact h.elim
def ownK (o:Own) (len l h:Nat) (m:Option (Option Nat)) (K:Own→Prop):Prop:=
 match m with
 | some (some m)=>(m = h→K .full)∧(m ≠ h→K .no)
 | some none=>K .no
 | none =>
  match o with
  | .full=>(h = len→K .full)∧(h ≠ len→K .no)
  | .tok t=>(l = 0∧h = len→K (.tok t))∧(¬ (l = 0∧h = len)→K .no)
  | .no | .nil=>K .no
theorem ownK_imp {o:Own} {len l h:Nat} {m:Option (Option Nat)} {K:Own→Prop} (hk:ownK o len l h m K):K (ownAfter o len l h m):=by
 unfold ownK at hk
 unfold ownAfter
 split at hk
 ·simp only []
  split
  ·rename_i e; exact hk.1 e
  ·rename_i e; exact hk.2 e
 ·exact hk
 ·split at hk
  ·simp only []
   split
   ·rename_i e; exact hk.1 e
   ·rename_i e; exact hk.2 e
  ·simp only []
   split
   ·rename_i e; exact hk.1 e
   ·rename_i e; exact hk.2 e
  ·exact hk
  ·exact hk
def sliceW (P:Program) (t:TypeId) (x:AV) (lo hi mx:Option AV) (K:AV→Prop):Prop:=
 match P.underlying t,x with
 | some .string,.str s =>
  match mx with
  | none=>boundW lo 0 fun l=>boundW hi s.length fun h=>(l≤h∧h≤s.length)∧K (.str ((s.take h).drop l))
  | _=>False
 | some (.slice e),.sl sz es o =>
  someK (sizeA P e) fun s=>boundW lo 0 fun l=>boundW hi es.length fun h=>(l≤h∧h≤es.length)∧(s = sz∨es = []) ∧
   match mx with
   | none=>ownK o es.length l h none fun o'=>K (.sl sz ((es.take h).drop l) o')
   | some (.int _ m)=>(hi.isSome = true∧h≤m∧m≤es.length)∧ownK o es.length l h (some (some m.toNat)) fun o'=>K (.sl sz ((es.take h).drop l) o')
   | _=>False
 | some (.slice e),.ms b sz n =>
  match mx with
  | none=>someK (sizeA P e) fun s=>boundW lo 0 fun l=>boundW hi n fun h=>(if s = sz then True else False)∧(l≤h∧h≤n)∧K (if lo.isNone then .ms b sz h else .mst b sz l (h - l))
  | _=>False
 | _,_=>False
theorem sliceW_imp {P:Program} {t:TypeId} {x:AV} {lo hi mx:Option AV} {K:AV→Prop} (h:sliceW P t x lo hi mx K):∃ v,sliceA P t x lo hi mx = some v∧K v:=by
 unfold sliceW at h
 split at h
 ·rename_i s hu
  split at h
  ·obtain ⟨l,hl,h⟩:=boundW_imp h
   obtain ⟨m,hm,h⟩:=boundW_imp h
   exact ⟨_,by simp only [sliceA,hu,hl,hm]; rw [if_pos h.1],h.2⟩
  ·exact h.elim
 ·rename_i e sz es o hu
  obtain ⟨s,hs,h⟩:=someK_imp h
  obtain ⟨l,hl,h⟩:=boundW_imp h
  obtain ⟨m,hm,h⟩:=boundW_imp h
  obtain ⟨h1,h2,h3⟩:=h
  split at h3
  ·exact ⟨_,by simp only [sliceA,hu,hl,hm,hs]; rw [if_pos ⟨h1.1,h1.2,h2⟩],ownK_imp h3⟩
  ·exact ⟨_,by simp only [sliceA,hu,hl,hm,hs]; rw [if_pos ⟨h1.1,h1.2,h2⟩,if_pos h3.1],ownK_imp h3.2⟩
  ·exact h3.elim
 ·rename_i e b sz n hu
  split at h
  ·obtain ⟨s,hs,h⟩:=someK_imp h
   obtain ⟨l,hl,h⟩:=boundW_imp h
   obtain ⟨m,hm,h⟩:=boundW_imp h
   obtain ⟨h1,h2,h3⟩:=h
   have h1:s = sz:=by
    split at h1
    ·assumption
    ·exact h1.elim
   exact ⟨_,by simp only [sliceA,hu,hl,hm,hs]; rw [if_pos ⟨h2.1,h2.2,h1⟩],h3⟩
  ·exact h.elim
 ·exact h.elim
def convertW (P:Program) (src dst:TypeId) (x:AV) (K:AV→Prop):Prop:=
 match P.underlying src,P.underlying dst,x with
 | some (.slice e),some .string,.sl sz es _ =>
  match P.underlying e with
  | some (.int .u8)=>(sz = 1∨es = [])∧∃ l,es.mapM byteOf = some l∧K (.str l)
  | _=>False
 | some .string,some (.slice e),.str s =>
  match P.underlying e with
  | some (.int .u8)=>s.length≤70368744177664∧K (.sl 1 (s.map fun c=>.int .u8 c.toNat) .no)
  | _=>False
 | _,_,_=>someK (convertA P src dst x) K
theorem convertW_imp {P:Program} {src dst:TypeId} {x:AV} {K:AV→Prop} (h:convertW P src dst x K):∃ v,convertA P src dst x = some v∧K v:=by
 unfold convertW at h
 split at h
 ·rename_i e sz es o hs hd
  split at h
  ·rename_i he
   obtain ⟨h1,l,h2,h3⟩:=h
   exact ⟨_,by simp only [convertA,hs,hd,he]; rw [if_pos h1,h2]; rfl,h3⟩
  ·exact h.elim
 ·rename_i e s hs hd
  split at h
  ·rename_i he
   exact ⟨_,by simp only [convertA,hs,hd,he]; rw [if_pos h.1],h.2⟩
  ·exact h.elim
 ·exact someK_imp h
def appendW (P:Program) (S:St) (t tx:TypeId) (x y:AV) (K:AV→St→Prop):Prop:=
 match P.underlying t with
 | some (.slice e) =>
  match P.info? e,x with
  | some i,.sl sz es o =>
   (sz = i.size∨es = []) ∧
   if 0 < i.size∧(i.zero.map fun z=>z.cells.size) = some i.size then
    someK (srcA P tx i.size y) fun ys=>(es.length + ys.length) * (i.bytes + 1)≤roomA ∧
     match o.weak with
     | .tok k =>
      match S.live[k]? with
      | some (n,e')=>if e' = e∧sz = i.size then n = es.length∧K (.sl i.size (es ++ ys) (.tok k)) { S with live:=S.live.set k (es.length + ys.length,e) } else False
      | none=>False
     | .full =>
      match y with
      | .sl _ _ .full =>
       match ys with
       | []=>K (.sl sz es o) S
       | c :: cs=>K (.sl i.size (es ++ c :: cs) (.tok S.live.length)) { S with live:=S.live ++ [(es.length + (c :: cs).length,e)] }
      | _=>(ys = []→K (.sl sz es o) S)∧(ys ≠ []→K (.sl i.size (es ++ ys) (.tok S.live.length)) { S with live:=S.live ++ [(es.length + ys.length,e)] })
     | _=>False
   else False
  | _,_=>False
 | _=>False
theorem appendW_imp {P:Program} {S:St} {t tx:TypeId} {x y:AV} {K:AV→St→Prop} (h:appendW P S t tx x y K):∃ v S',appendA P S t tx x y = some (v,S')∧K v S':=by
 unfold appendW at h
 unfold appendA
 split at h
 ·rename_i e hu
  split at h
  ·rename_i i sz es o hi
   obtain ⟨h1,h⟩:=h
   split at h
   ·rename_i h2
    obtain ⟨ys,hys,h'⟩:=someK_imp h
    clear h
    obtain ⟨h3,h⟩:=h'
    simp only [hu,hi,hys,h3,h2,h1,and_self,if_true]
    split at h
    ·rename_i k hk
     split at h
     ·rename_i n e' hlive
      split at h
      ·rename_i h4
       obtain ⟨h6,h7⟩:=h4
       obtain ⟨h8,h9⟩:=h
       subst h6; subst h7; subst h8
       have hlt:k < S.live.length:=(List.getElem?_eq_some_iff.1 hlive).1
       by_cases hnil:ys = []
       ·subst hnil
        have ho:o = .tok k:=by cases o <;> simp_all [Own.weak]
        subst ho
        rw [if_pos rfl]
        refine ⟨_,_,rfl,?_⟩
        have e1:S.live.set k (es.length,e') = S.live:=by
         apply List.ext_getElem?
         intro j
         rw [List.getElem?_set]
         by_cases hj:k = j
         ·subst hj; rw [if_pos rfl,if_pos hlt,hlive]
         ·simp [hj]
        simp only [List.append_nil,List.length_nil,Nat.add_zero,e1] at h9
        exact h9
       ·rw [if_neg hnil]
        simp only [hk,hlive,and_self,if_true]
        exact ⟨_,_,rfl,h9⟩
      ·exact h.elim
     ·exact h.elim
    ·rename_i hk
     have key:(ys = []→K (.sl sz es o) S)∧(ys ≠ []→K (.sl i.size (es ++ ys) (.tok S.live.length)) { S with live:=S.live ++ [(es.length + ys.length,e)] }):=by
      split at h
      ·split at h
       ·exact ⟨fun _=>h,fun hn=>absurd rfl hn⟩
       ·exact ⟨fun hn=>absurd hn (by simp),fun _=>h⟩
      ·exact h
     by_cases hnil:ys = []
     ·rw [if_pos hnil]; exact ⟨_,_,rfl,key.1 hnil⟩
     ·rw [if_neg hnil]
      simp only [hk]
      exact ⟨_,_,rfl,key.2 hnil⟩
    ·exact h.elim
   ·exact h.elim
  ·exact h.elim
 ·exact h.elim
def makeSliceW (P:Program) (S:St) (t:TypeId) (l c:AV) (K:AV→St→Prop):Prop:=
 match P.underlying t,l,c with
 | some (.slice e),.int .i64 n,.int .i64 m =>
  someK (P.info? e) fun i=>someK i.zero fun z =>
   (0≤n∧n≤m∧m * (i.bytes + 1)≤roomA) ∧
   if z.cells.size = i.size∧0 < i.size∧(absV z).closed1∧(absV z).cells.length = i.size∧z.cells.toList.all (·.oneCell') then
    K (.sl i.size (List.replicate n.toNat (absV z)) (.tok S.live.length)) { S with live:=S.live ++ [(n.toNat,e)] }
   else False
 | _,_,_=>False
theorem makeSliceW_imp {P:Program} {S:St} {t:TypeId} {l c:AV} {K:AV→St→Prop} (h:makeSliceW P S t l c K):∃ v S',makeSliceA P S t l c = some (v,S')∧K v S':=by
 unfold makeSliceW at h
 unfold makeSliceA
 split at h
 ·rename_i e n m hu
  obtain ⟨i,hi,h⟩:=someK_imp h
  obtain ⟨z,hz,h⟩:=someK_imp h
  obtain ⟨h1,h⟩:=h
  split at h
  ·rename_i h2
   simp only [hu,hi,hz]
   rw [if_pos ⟨h1.1,h1.2.1,h1.2.2,h2⟩]
   exact ⟨_,_,rfl,h⟩
  ·exact h.elim
 ·exact h.elim
def lvOf (o:Option TypeId) (r:AV):List (Nat × TypeId):=
 match o,r with
 | some e,.sl _ es _=>[(es.length,e)]
 | some e,.tup (.sl _ es _ :: _)=>[(es.length,e)]
 | _,_=>[]
structure CallIs (x:Option (AV × List (Nat × TypeId))) (r:AV) (lv:List (Nat × TypeId)):Prop where
 eq:x = some (r,lv)
abbrev CCallee:=FuncId→List AV→St→Option (Prop × AV × St)
open Classical in
noncomputable def lowC (C:CCallee):ICallee:=fun f args S =>
 match C f args S with
 | some x=>if x.1 then some x.2 else none
 | none=>none
def noCC:CCallee:=fun _ _ _=>none
structure OutIs (a b:AV):Prop where
 eq:a = b
def callW (X:Shapes) (R:Callee) (C:CCallee) (S:St) (f:FuncId) (args:List AV) (K:AV→St→Prop):Prop:=
 match C f args S with
 | some x=>x.1∧match X (3000000 + f) with
  | some sh=>exSh sh.1 fun r=>OutIs x.2.1 r∧K r x.2.2
  | none=>forkB x.2.1 fun r=>K r x.2.2
 | none =>
  if (args.map AV.strip1).all AV.closed1 then
   someK (X f) fun sh=>exSh sh.1 fun r=>CallIs (R f (args.map AV.strip1)) r (lvOf sh.2 r) ∧
    match lvOf sh.2 r with
    | []=>forkB r fun r=>K r S
    | lv=>K (adopt S.live.length r) { S with live:=S.live ++ lv }
  else False
theorem callW_imp {X:Shapes} {R:Callee} {C:CCallee} {S:St} {f:FuncId} {args:List AV} {K:AV→St→Prop} (h:callW X R C S f args K):∃ v S',callG R (lowC C) S f args = some (v,S')∧K v S':=by
 unfold callW at h
 unfold callG
 split at h
 ·rename_i x hx
  obtain ⟨hp,h⟩:=h
  refine ⟨x.2.1,x.2.2,?_,?_⟩
  ·simp only [lowC,hx]; rw [if_pos hp]
  ·split at h
   ·obtain ⟨r,hr,h⟩:=exSh_imp h
    rw [hr.eq]; exact h
   ·exact forkB_imp h
 ·rename_i hx
  simp only [lowC,hx]
  split at h
  ·rename_i hc
   rw [if_pos hc]
   obtain ⟨sh,_,h⟩:=someK_imp h
   obtain ⟨r,hr,h⟩:=exSh_imp h
   unfold callA
   rw [if_pos hc,hr.eq]
   split at h
   ·rename_i hlv
    simp only [hlv]
    exact ⟨_,_,rfl,forkB_imp h⟩
   ·rename_i lv hlv
    cases hl:lvOf sh.2 r with
    | nil=>exact absurd hl hlv
    | cons p l =>
     rw [hl] at h
     exact ⟨_,_,rfl,h⟩
  ·exact h.elim
def nextW (S:St) (it:AV) (isString:Bool) (K:AV→St→Prop):Prop:=
 match it,isString with
 | .ptr b 0,true =>
  match S.boxes[b]? with
  | some (some [.tup [.str l,.int .i64 p]]) =>
   (p.toNat < l.length→K (.tup [.bool true,.int .i64 p,.int .i32 (decodeL l p.toNat).1]) { S with boxes:=S.boxes.set b (some [.tup [.str l,.int .i64 (p.toNat + (decodeL l p.toNat).2:Nat)]]) }) ∧
   (l.length≤p.toNat→K (.tup [.bool false]) S)
  | _=>False
 | _,_=>False
theorem nextW_imp {S:St} {it:AV} {b:Bool} {K:AV→St→Prop} (h:nextW S it b K):∃ v S',nextA S it b = some (v,S')∧K v S':=by
 unfold nextW at h
 unfold nextA
 split at h
 ·split at h
  ·rename_i l p hb
   obtain ⟨h1,h2⟩:=h
   by_cases hlt:p.toNat < l.length
   ·exact ⟨_,_,by simp only [hb]; rw [if_pos hlt],h1 hlt⟩
   ·exact ⟨_,_,by simp only [hb]; rw [if_neg hlt],h2 (by omega)⟩
  ·exact h.elim
 ·exact h.elim
structure LookIs (es:List AV) (k z v:AV):Prop where
 eq:(lookM es k).getD z = v
structure HasIs (es:List AV) (k:AV) (b:Bool):Prop where
 eq:(lookM es k).isSome = b
structure KeyIs (P:Program) (t:TypeId) (k:AV):Prop where
 ok:(keyL P t k).isSome = true
structure ValIs (v:AV):Prop where
 ok:(valD v).isSome = true
def lookupW (P:Program) (S:St) (t:TypeId) (x k:AV) (ok:Bool) (K:AV→Prop):Prop:=
 match mapAt S x,keyKind P t with
 | some (_,t',_,es),some (kt,et) =>
  match zeroA P et with
  | some z =>
   if t' = t∧(valD (absV z)).isSome then
    KeyIs P kt k ∧
    match ok with
    | false=>someK (shOf P et) fun sh=>exSh sh fun v=>LookIs es k (absV z) v∧forkB v K
    | true=>(HasIs es k true→someK (shOf P et) fun sh=>exSh sh fun v=>LookIs es k (absV z) v∧K (.tup [v,.bool true]))∧(HasIs es k false→K (.tup [absV z,.bool false]))
   else False
  | none=>False
 | _,_=>False
theorem lookupW_imp {P:Program} {S:St} {t:TypeId} {x k:AV} {ok:Bool} {K:AV→Prop} (h:lookupW P S t x k ok K):∃ v,lookupA P S t x k ok = some v∧K v:=by
 unfold lookupW at h
 unfold lookupA
 cases hma:mapAt S x with
 | none=>simp [hma] at h
 | some q =>
 cases hkk:keyKind P t with
 | none=>simp [hma,hkk] at h
 | some q2 =>
  obtain ⟨b,t',n,es⟩:=q
  obtain ⟨kt,et⟩:=q2
  simp only [hma,hkk] at h ⊢
  cases hz:zeroA P et with
  | none=>simp [hz] at h
  | some z =>
   simp only [hz] at h ⊢
   split at h
   ·rename_i hc
    obtain ⟨hk,h⟩:=h
    rw [if_pos ⟨hc.1,hk.ok,hc.2⟩]
    cases ok with
    | false =>
     obtain ⟨sh,_,h⟩:=someK_imp h
     obtain ⟨v,h1,h2⟩:=exSh_imp h
     exact ⟨v,by simp [h1.eq],forkB_imp h2⟩
    | true =>
     obtain ⟨h1,h2⟩:=h
     cases hl:lookM es k with
     | none=>exact ⟨_,rfl,by simpa using h2 ⟨by rw [hl]; rfl⟩⟩
     | some a =>
      obtain ⟨sh,_,h⟩:=someK_imp (h1 ⟨by rw [hl]; rfl⟩)
      obtain ⟨v,h3,h4⟩:=exSh_imp h
      have h3:=h3.eq
      rw [hl] at h3
      refine ⟨_,rfl,?_⟩
      simp only [if_true,Option.getD_some,Option.isSome_some] at h3 ⊢
      rw [h3]; exact h4
   ·exact h.elim
def updateW (P:Program) (S:St) (t:TypeId) (x k v:AV) (K:St→Prop):Prop:=
 match mapAt S x,keyKind P t with
 | some (b,t',n,es),some (kt,_) =>
  (if t' = t then True else False)∧KeyIs P kt k∧ValIs v∧0≤n∧n < 70368744177664∧K { S with boxes:=S.boxes.set b (some (mapC t (n + 1) (keptPutM es k v))) }
 | _,_=>False
theorem updateW_imp {P:Program} {S:St} {t:TypeId} {x k v:AV} {K:St→Prop} (h:updateW P S t x k v K):∃ S',updateA P S t x k v = some S'∧K S':=by
 unfold updateW at h
 unfold updateA
 cases hma:mapAt S x with
 | none=>simp [hma] at h
 | some q =>
 cases hkk:keyKind P t with
 | none=>simp [hma,hkk] at h
 | some q2 =>
  obtain ⟨b,t',n,es⟩:=q
  obtain ⟨kt,et⟩:=q2
  simp only [hma,hkk] at h ⊢
  obtain ⟨h0,h1,h2,h3,h4,h5⟩:=h
  have h0:t' = t:=by
   split at h0
   ·assumption
   ·exact h0.elim
  exact ⟨_,by rw [if_pos ⟨h0,h1.ok,h2.ok,h3,by unfold roomA; omega⟩],h5⟩
def deleteW (P:Program) (S:St) (t:TypeId) (x k:AV) (K:St→Prop):Prop:=
 match mapAt S x,keyKind P t with
 | some (b,t',n,es),some (kt,_) =>
  (if t' = t then True else False)∧KeyIs P kt k∧K { S with boxes:=S.boxes.set b (some (mapC t n (keptDelM es k))) }
 | _,_=>False
theorem deleteW_imp {P:Program} {S:St} {t:TypeId} {x k:AV} {K:St→Prop} (h:deleteW P S t x k K):∃ S',deleteA P S t x k = some S'∧K S':=by
 unfold deleteW at h
 unfold deleteA
 cases hma:mapAt S x with
 | none=>simp [hma] at h
 | some q =>
 cases hkk:keyKind P t with
 | none=>simp [hma,hkk] at h
 | some q2 =>
  obtain ⟨b,t',n,es⟩:=q
  obtain ⟨kt,et⟩:=q2
  simp only [hma,hkk] at h ⊢
  obtain ⟨h0,h1,h5⟩:=h
  have h0:t' = t:=by
   split at h0
   ·assumption
   ·exact h0.elim
  exact ⟨_,by rw [if_pos ⟨h0,h1.ok⟩],h5⟩
def copyToW (P:Program) (S:St) (e:TypeId) (b sz i n sy:Nat) (ys:List AV) (K:AV→St→Prop):Prop:=
 match S.boxes[b]? with
 | some (some [.tup [.bool true,.sl sz' es .no]]) =>
  (if (sz' = sz∧0 < sz∧sizeA P e = some sz) then True else False)∧(sy = sz∨ys = [])∧i + n≤es.length∧K (.int .i64 (min ys.length n:Nat)) { S with boxes:=S.boxes.set b (some (ownC sz (es.take i ++ ys.take n ++ es.drop (i + min ys.length n)))) }
 | _=>False
theorem copyToW_imp {P:Program} {S:St} {e:TypeId} {b sz i n sy:Nat} {ys:List AV} {K:AV→St→Prop} (h:copyToW P S e b sz i n sy ys K):∃ v S',copyTo P S e b sz i n sy ys = some (v,S')∧K v S':=by
 unfold copyToW at h
 unfold copyTo
 split at h
 ·rename_i sz' es hb
  obtain ⟨h1,h2,h3,h4⟩:=h
  split at h1
  ·rename_i hc
   exact ⟨_,_,by first | rw [if_pos ⟨hc,h2,h3⟩] | (simp only [hb]; rw [if_pos ⟨hc,h2,h3⟩]),h4⟩
  ·exact h1.elim
 ·exact h.elim
def copyW (P:Program) (S:St) (t:TypeId) (x y:AV) (K:AV→St→Prop):Prop:=
 match P.underlying t,y with
 | some (.slice e),.sl sy ys _ =>
  match x with
  | .ms b sz n=>copyToW P S e b sz 0 n sy ys K
  | .mst b sz i n=>copyToW P S e b sz i n sy ys K
  | _=>False
 | _,_=>False
theorem copyW_imp {P:Program} {S:St} {t:TypeId} {x y:AV} {K:AV→St→Prop} (h:copyW P S t x y K):∃ v S',copyA P S t x y = some (v,S')∧K v S':=by
 unfold copyW at h
 unfold copyA
 split at h
 ·rename_i e sy ys o hu
  try simp only [hu]
  split at h
  ·exact copyToW_imp h
  ·exact copyToW_imp h
  ·exact h.elim
 ·exact h.elim
def clearW (P:Program) (S:St) (t:TypeId) (x:AV) (K:St→Prop):Prop:=
 match P.underlying t,x with
 | some (.slice e),.mst b sz i n =>
  match S.boxes[b]?,zeroA P e with
  | some (some [.tup [.bool true,.sl sz' es .no]]),some z =>
   (if (sz' = sz∧0 < sz∧z.cells.size = sz∧z.cells.toList.all (·.oneCell')) then True else False)∧i + n≤es.length∧K { S with boxes:=S.boxes.set b (some (ownC sz (es.take i))) }
  | _,_=>False
 | _,_=>False
theorem clearW_imp {P:Program} {S:St} {t:TypeId} {x:AV} {K:St→Prop} (h:clearW P S t x K):∃ S',clearA P S t x = some S'∧K S':=by
 unfold clearW at h
 unfold clearA
 split at h
 ·rename_i hu
  simp only [hu]
  split at h
  ·rename_i hb hz
   obtain ⟨h1,h2,h3⟩:=h
   split at h1
   ·rename_i hc
    exact ⟨_,by simp only [hb,hz]; rw [if_pos ⟨hc,h2⟩],h3⟩
   ·exact h1.elim
  ·exact h.elim
 ·exact h.elim
def opW (P:Program) (X:Shapes) (R:Callee) (C:CCallee) (ρ:Operand→AV) (bid:Nat) (S:St) (op:Op) (K:AV→St→Prop):Prop:=
 match op with
 | .load t a=>loadW P X S t (ρ a) fun v=>K v S
 | .store t a x=>storeW P S t (ρ a) (ρ x) fun S'=>K (.tup []) S'
 | .binOp op t x y _=>binW P op t (isK x || isK y) (ρ x) (ρ y) fun v=>K v S
 | .indexAddr t x i=>indexAddrW P t (ρ x) (ρ i) fun v=>K v S
 | .index t x i=>indexW P t (ρ x) (ρ i) fun v=>K v S
 | .slice t x lo hi mx=>sliceW P t (ρ x) (lo.map ρ) (hi.map ρ) (mx.map ρ) fun v=>K v S
 | .convert src dst x=>convertW P src dst (ρ x) fun v=>K v S
 | .makeSlice t l c=>makeSliceW P S t (ρ l) (ρ c) K
 | .next it s=>nextW S (ρ it) s K
 | .lookup t x k ok=>lookupW P S t (ρ x) (ρ k) ok fun v=>K v S
 | .mapUpdate t x k v=>updateW P S t (ρ x) (ρ k) (ρ v) fun S'=>K (.tup []) S'
 | .extract t i =>
  match ρ t with
  | .tup vs=>someK vs[i]? fun v=>forkB v fun v=>K v S
  | _=>False
 | .call c =>
  match c.callee with
  | .builtin .append =>
   match c.argTypes.toList,c.args.toList with
   | [t,tx],[x,y]=>appendW P S t tx (ρ x) (ρ y) K
   | _,_=>False
  | .builtin .delete =>
   match c.argTypes.toList,c.args.toList with
   | [t,t2],[x,y]=>if (keyKind P t).map (·.1) = some t2 then deleteW P S t (ρ x) (ρ y) fun S'=>K (.tup []) S' else False
   | _,_=>False
  | .builtin .clear =>
   match c.argTypes.toList,c.args.toList with
   | [t],[x]=>clearW P S t (ρ x) fun S'=>K (.tup []) S'
   | _,_=>False
  | .builtin .copy =>
   match c.argTypes.toList,c.args.toList with
   | [t,_],[x,y]=>copyW P S t (ρ x) (ρ y) K
   | _,_=>False
  | .value f =>
   match ρ f with
   | .fn g cap=>callW X R C S g (c.args.toList.map ρ ++ cap) K
   | _=>False
  | _=>someK (opA P R (lowC C) ρ bid S (.call c)) fun x=>K x.1 x.2
 | op=>someK (opA P R (lowC C) ρ bid S op) fun x=>K x.1 x.2
theorem opW_imp {P:Program} {X:Shapes} {R:Callee} {C:CCallee} {ρ:Operand→AV} {bid:Nat} {S:St} {op:Op} {K:AV→St→Prop} (h:opW P X R C ρ bid S op K):∃ v S',opA P R (lowC C) ρ bid S op = some (v,S')∧K v S':=by
 have pr:∀ {z:Option AV},(∃ v,z = some v∧K v S)→∃ v S',z.map (·,S) = some (v,S')∧K v S':=fun ⟨v,h1,h2⟩=>⟨v,S,by rw [h1]; rfl,h2⟩
 have df:∀ {z:Option (AV × St)},(someK z fun x=>K x.1 x.2)→∃ v S',z = some (v,S')∧K v S':=fun h=>by
  obtain ⟨x,h1,h2⟩:=someK_imp h
  exact ⟨x.1,x.2,h1,h2⟩
 unfold opW at h
 split at h
 ·exact pr (loadW_imp h)
 ·obtain ⟨S',h1,h2⟩:=storeW_imp h
  exact ⟨_,S',by simp only [opA]; rw [h1]; rfl,h2⟩
 ·exact pr (binW_imp h)
 ·exact pr (indexAddrW_imp h)
 ·exact pr (indexW_imp h)
 ·exact pr (sliceW_imp h)
 ·exact pr (convertW_imp h)
 ·exact makeSliceW_imp h
 ·obtain ⟨v,S',h1,h2⟩:=nextW_imp h
  exact ⟨v,S',by simp only [opA]; exact h1,h2⟩
 ·obtain ⟨v,h1,h2⟩:=lookupW_imp h
  exact ⟨v,S,by simp only [opA]; rw [h1]; rfl,h2⟩
 ·obtain ⟨S',h1,h2⟩:=updateW_imp h
  exact ⟨_,S',by simp only [opA]; rw [h1]; rfl,h2⟩
 ·split at h
  ·rename_i t i _ vs hv
   obtain ⟨v,h1,h2⟩:=someK_imp h
   exact ⟨v,S,by simp only [opA,hv,h1]; rfl,forkB_imp h2⟩
  ·exact h.elim
 ·rename_i c
  split at h
  ·rename_i hc
   split at h
   ·rename_i t tx x y ht hx
    obtain ⟨v,S',h1,h2⟩:=appendW_imp h
    exact ⟨v,S',by simp only [opA,hc,ht,hx,h1],h2⟩
   ·exact h.elim
  ·rename_i hc
   split at h
   ·rename_i t t2 x y ht hx
    split at h
    ·rename_i hkk
     obtain ⟨S',h1,h2⟩:=deleteW_imp h
     exact ⟨_,S',by simp only [opA,hc,ht,hx]; rw [if_pos hkk,h1]; rfl,h2⟩
    ·exact h.elim
   ·exact h.elim
  ·rename_i hc
   split at h
   ·rename_i t x ht hx
    obtain ⟨S',h1,h2⟩:=clearW_imp h
    exact ⟨_,S',by simp only [opA,hc,ht,hx]; rw [h1]; rfl,h2⟩
   ·exact h.elim
  ·rename_i hc
   split at h
   ·rename_i t t2 x y ht hx
    obtain ⟨v,S',h1,h2⟩:=copyW_imp h
    exact ⟨v,S',by simp only [opA,hc,ht,hx,h1],h2⟩
   ·exact h.elim
  ·rename_i f hc
   split at h
   ·rename_i g cap hg
    obtain ⟨v,S',h1,h2⟩:=callW_imp h
    exact ⟨v,S',by simp only [opA,hc,hg,h1],h2⟩
   ·exact h.elim
  ·exact df h
 ·exact df h
def stepW (P:Program) (G:Glob) (X:Shapes) (R:Callee) (C:CCallee) (ops:List Oper) (bid:Nat) (o:Oper) (T:List AV) (S:St) (K:AV→St→Prop):Prop:=
 match guardA ops T o with
 | some true=>opW P X R C (evA G T) bid S o.op K
 | some false=>K (.tup []) S
 | none=>False
theorem stepW_imp {P:Program} {G:Glob} {X:Shapes} {R:Callee} {C:CCallee} {ops:List Oper} {bid:Nat} {o:Oper} {T:List AV} {S:St} {K:AV→St→Prop} (h:stepW P G X R C ops bid o T S K) :
  ∃ r S',stepA P G R (lowC C) ops bid o T S = some (r,S')∧K r S':=by
 unfold stepW at h
 unfold stepA
 split at h
 ·rename_i hg
  rw [hg]
  exact opW_imp h
 ·rename_i hg
  rw [hg]
  exact ⟨_,_,rfl,h⟩
 ·exact h.elim
def stepWl (P:Program) (G:Glob) (X:Shapes) (R:Callee) (C:CCallee) (ops:List Oper) (bid:Nat) (o:Oper) (T:List AV) (S:St) (K:AV→St→Prop):Prop:=
 match o.op with
 | .makeSlice t l c =>
  match X (4000000 + t) with
  | some _ =>
   match guardA ops T o with
   | some true=>makeMsW P S t (evA G T l) (evA G T c) K
   | some false=>K (.tup []) S
   | none=>False
  | none=>stepW P G X R C ops bid o T S K
 | _=>stepW P G X R C ops bid o T S K
def listW (P:Program) (G:Glob) (X:Shapes) (R:Callee) (C:CCallee) (ops:List Oper):List Oper→Nat→List AV→St→(List AV→St→Prop)→Prop
 | [],_,T,S,K=>K T S
 | o :: l,bid,T,S,K=>stepWl P G X R C ops bid o T S fun r S'=>listW P G X R C ops l (nextBid o bid) (putA T o.dst r) S' K
theorem step_wp {P:Program} {G:Glob} {N0:Nat→Prop} {w0:World} {I0:Nat→Nat→Prop} {X:Shapes} {R:Callee} {C:CCallee} (hR:CalleeOk P G R) (hC:ICalleeOk P G (lowC C)) {ops:List Oper} {bid:Nat} {o:Oper} {T:List AV} {S:St} {K:AV→St→Prop} {E:Env} {a:Act} {w:World} {Q:Exit→Act→World→Prop} {l:List Oper}
  (hS:SR P G N0 w0 I0 S E w) (hT:TR E w T a.tmps) (h:stepWl P G X R C ops bid o T S K)
  (hK:∀ E' w' v r S',K r S'→SR P G N0 w0 I0 S' E' w'→Env.Le E E' w w'→Rep E' w' r v→wpList P ops.toArray Q l (a.put o.dst v) w'):wpList P ops.toArray Q (o :: l) a w:=by
 have plain:stepW P G X R C ops bid o T S K→wpList P ops.toArray Q (o :: l) a w:=fun h=>by
  obtain ⟨r,S1,hs,hk⟩:=stepW_imp h
  unfold stepA at hs
  split at hs
  ·rename_i hg
   have hw:=guardA_run hg hT.1 (fun j want t c v _ _ hc hv=>hT.2 t c v hc hv)
   simp only [wpList,hw,if_true]
   exact .inl (op_wp hR hC hS hT hs fun E' w' v h1 h2 h3=>hK E' w' v r S1 hk h1 h2 h3)
  ·rename_i hg
   have hw:=guardA_run hg hT.1 (fun j want t c v _ _ hc hv=>hT.2 t c v hc hv)
   simp only [wpList,hw,Bool.false_eq_true,if_false]
   simp at hs
   obtain ⟨rfl,rfl⟩:=hs
   exact hK E w _ _ _ hk hS (Env.Le.refl _ _) rep_undef
  ·cases hs
 unfold stepWl at h
 split at h
 ·rename_i t ln cn hop
  split at h
  ·split at h
   ·rename_i hg
    have hw:=guardA_run hg hT.1 (fun j want t c v _ _ hc hv=>hT.2 t c v hc hv)
    simp only [wpList,hw,if_true]
    obtain ⟨r,S1,hs,hk⟩:=makeMsW_imp h
    obtain ⟨v,w',E',hrun,h1,h2,h3⟩:=makeMsA_run hS hs (evA_rep hS.glob hT ln) (evA_rep hS.glob hT cn)
    exact .inl (wp_value (by obtain ⟨dst,op,type,pos,after,guard⟩:=o; simp only at hop; subst hop; exact run_v hrun) (hK E' w' v r S1 hk h1 h2 h3))
   ·rename_i hg
    have hw:=guardA_run hg hT.1 (fun j want t c v _ _ hc hv=>hT.2 t c v hc hv)
    simp only [wpList,hw,Bool.false_eq_true,if_false]
    exact hK E w _ _ _ h hS (Env.Le.refl _ _) rep_undef
   ·exact h.elim
  ·exact plain h
 ·exact plain h
theorem listW_wp {P:Program} {G:Glob} {N0:Nat→Prop} {w0:World} {I0:Nat→Nat→Prop} {X:Shapes} {R:Callee} {C:CCallee} (hR:CalleeOk P G R) (hC:ICalleeOk P G (lowC C)) {ops:List Oper} {Q:Exit→Act→World→Prop}:∀ {l:List Oper} {bid:Nat} {T:List AV} {S:St} {K:List AV→St→Prop} {E:Env} {a:Act} {w:World},
  SR P G N0 w0 I0 S E w→TR E w T a.tmps→listW P G X R C ops l bid T S K →
  (∀ T' S' E' w' a',K T' S'→SR P G N0 w0 I0 S' E' w'→Env.Le E E' w w'→TR E' w' T' a'.tmps→a'.defers = a.defers→Q .normal a' w')→wpList P ops.toArray Q l a w
 | [],_,T,S,K,E,a,w,hS,hT,h,hQ=>hQ T S E w a h hS (Env.Le.refl _ _) hT rfl
 | o :: l,bid,T,S,K,E,a,w,hS,hT,h,hQ=>by
  refine step_wp hR hC hS hT h fun E' w' v r S' hk h1 h2 h3=>?_
  exact listW_wp hR hC h1 ((hT.le h2).putA o.dst h3) hk fun T2 S2 E2 w2 a2 k0 k1 k2 k3 k4=>hQ T2 S2 E2 w2 a2 k0 k1 (h2.trans k2) k3 (k4.trans (put_defers _ _ _))
def locCC (C:CCallee):CCallee:=fun f args S =>
 if args.all AV.kc2 then
  match C f args ⟨[],S.live⟩ with
  | some (p,r,S')=>if S'.boxes.isEmpty && r.kc2 then some (p,r,{ S with live:=S'.live }) else none
  | none=>none
 else none
theorem lowC_loc (C:CCallee):lowC (locCC C) = locC (lowC C):=by
 funext f args S
 unfold lowC locCC locC
 split
 ·rename_i x hx
  split at hx
  ·rename_i ha
   rw [if_pos ha]
   split at hx
   ·rename_i p r S' hx2
    split at hx
    ·rename_i hc
     injection hx with hx
     subst hx
     simp only [hx2]
     by_cases hp:p
     ·rw [if_pos hp,if_pos hp]
      simp only
      rw [if_pos hc]
     ·rw [if_neg hp,if_neg hp]
    ·cases hx
   ·cases hx
  ·cases hx
 ·rename_i hx
  split at hx
  ·rename_i ha
   rw [if_pos ha]
   split at hx
   ·rename_i p r S' hx2
    split at hx
    ·cases hx
    ·rename_i hc
     simp only [hx2]
     by_cases hp:p
     ·rw [if_pos hp]
      simp only
      rw [if_neg hc]
     ·rw [if_neg hp]
   ·rename_i hx2
    simp only [hx2]
  ·rename_i ha
   rw [if_neg ha]
def lkOn (C:CCallee) (f:FuncId):Bool:=(C (1000000 + f) [] ⟨[],[]⟩).isSome
def drawC (C:CCallee):CCallee:=fun f=>if lkOn C f then locCC C f else noCC f
theorem drawC_low (C:CCallee) (f:FuncId):lowC (drawC C) f = if lkOn C f then locC (lowC C) f else noC f:=by
 unfold drawC
 funext args S
 by_cases h:lkOn C f = true
 ·rw [if_pos h,← lowC_loc]
  simp only [lowC,h,if_true]
 ·rw [if_neg h]
  simp only [lowC,h,Bool.false_eq_true,if_false,noCC,noC]
def logW (P:Program) (G:Glob) (X:Shapes) (R:Callee) (C:CCallee) (lk:FuncId→Bool) (ops:List Oper):List Oper→Nat→List AV→St→(List (List Loc × List Loc)→List AV→St→Prop)→Prop
 | [],_,T,S,K=>K [] T S
 | o :: l,bid,T,S,K=>stepW P G X R C ops bid o T S fun r S'=>logW P G X R C lk ops l (nextBid o bid) (putA T o.dst r) S' fun lg=>K (entA G lk ops T bid S S' o :: lg)
theorem logW_imp {P:Program} {G:Glob} {X:Shapes} {R:Callee} {C:CCallee} {lk:FuncId→Bool} {ops:List Oper}:∀ {l:List Oper} {bid:Nat} {T:List AV} {S:St} {K:List (List Loc × List Loc)→List AV→St→Prop},logW P G X R C lk ops l bid T S K →
  ∃ lg T' S',logA P G R (lowC C) lk ops l bid T S = some (lg,T',S')∧K lg T' S'
 | [],_,_,_,_,h=>⟨_,_,_,rfl,h⟩
 | o :: l,bid,T,S,K,h=>by
  obtain ⟨r,S1,h1,h⟩:=stepW_imp h
  obtain ⟨lg,T',S',h2,h⟩:=logW_imp h
  exact ⟨_,T',S',by simp only [logA,h1,h2],h⟩
def regionW (P:Program) (G:Glob) (X:Shapes) (R:Callee) (C:CCallee) (ops:List Oper) (draw:Bool) (T:List AV) (S:St) (K:List AV→St→Prop):Prop:=
 if draw then
  if drawOk ops then logW P G X R (drawC C) (lkOn C) ops ops S.boxes.length T (roomFor ops S) fun lg T' S'=>if confOk ops lg then K T' S' else False
  else False
 else listW P G X R C ops ops S.boxes.length T (roomFor ops S) K
abbrev WK:=AExit→List AV→St→Prop
abbrev WStep:=List AV→St→WK→Prop
def seqK (f:WStep) (K:WK):WK:=fun x T S =>
 match x with
 | .normal=>f T S K
 | x=>K x T S
def blockK (id:Nat) (K:WK):WK:=fun x T S =>
 match x with
 | .exit id'=>if id' = id then K .normal T S else K (.exit id') T S
 | x=>K x T S
structure Ann where
 α:Type
 /-- slots that are read again, and what they hold -/
 slots:List Nat
 vals:α→List AV
 /-- variables -/
 nb:Nat
 sS:α→St
 I:α→Prop
 μ:α→Nat
 mint:List (Nat × TypeId):=[]
 /-- variables that hold nil slices which will be appended to -/
 mintB:List (Nat × TypeId):=[]
 bools:List Nat:=[]
 /-- a loop of few rounds: walked round by round -/
 unroll:Nat:=0
 /-- rounds walked ahead of the annotation -/
 peel:Nat:=0
 /-- how many owners are kept where it lands -/
 keep:Option Nat:=none
 /-- slots whose slices are written no more -/
 give:List Nat:=[]
 /-- at a cut: what the state has to do with the slots ahead -/
 rel:List AV→α→Prop:=fun _ _=>True
 /-- at a loop inside a loop: what it has to do with the slots ahead -/
 link:Option (List AV→α→Prop):=none
def mintW (P:Program):List (Nat × TypeId)→List AV→St→(List AV→St→Prop)→Prop
 | [],T,S,K=>K T S
 | (t,e) :: l,T,S,K =>
  match T[t]?,sizeA P e with
  | some (.sl _ es .nil),some sz =>
   match es with
   | []=>mintW P l (T.set t (.sl sz [] (.tok S.live.length))) { S with live:=S.live ++ [(0,e)] } K
   | _=>mintW P l T S K
  | _,_=>mintW P l T S K
def mintBW (P:Program):List (Nat × TypeId)→St→(St→Prop)→Prop
 | [],S,K=>K S
 | (b,e) :: l,S,K =>
  match S.boxes[b % 1000]?,sizeA P (e % 1000000) with
  | some (some cs),some sz =>
   match cs[b / 1000]? with
   | some (.sl _ [] .nil) =>
    if 1000000≤e then
     (if isRow cs = true∧isRow (cs.set (b / 1000) (.sl sz [] .no)) = true then mintBW P l { S with boxes:=S.boxes.set (b % 1000) (some (cs.set (b / 1000) (.sl sz [] .no))) } K else mintBW P l S K)
    else if isRow cs = true∧isRow (cs.set (b / 1000) (.sl sz [] (.tok S.live.length))) = true then mintBW P l { boxes:=S.boxes.set (b % 1000) (some (cs.set (b / 1000) (.sl sz [] (.tok S.live.length)))),live:=S.live ++ [(0,e)] } K else mintBW P l S K
   | _=>mintBW P l S K
  | _,_=>mintBW P l S K
def cutTo (nb:Nat) (T:List AV) (S:St):Option St:=
 if S.boxes.length≤nb then some S else
 if T.all (AV.p2 nb) && boxesOk nb (S.boxes.take nb) then some { S with boxes:=S.boxes.take nb } else none
def headT (len:Nat) (slots:List Nat) (vs:List AV):List AV:=(List.range len).map fun i=>((slots.zip vs).lookup i).getD .junk
structure ValsAre (a b:List AV):Prop where
 eq:a = b
structure StIs (a b:St):Prop where
 eq:a = b
def landV (n0 len:Nat) (an:Ann) (T:List AV) (S:St) (p:an.α→Prop):Prop:=
 if n0≤an.nb∧T.length = len then ∃ y,ValsAre (an.slots.map (fun i=>T.getD i (.tup []))) (an.vals y)∧someK (cutTo an.nb (headT len an.slots (an.vals y)) S) (fun S'=>StIs S' (an.sS y))∧an.I y∧p y else False
def landW (n0 l0 len:Nat) (an:Ann) (T:List AV) (S:St) (p:an.α→Prop):Prop:=
 match an.keep with
 | none=>landV n0 len an T S p
 | some n=>if l0≤n∧boxesT n S.boxes = true then landV n0 len an (T.map (stripT n)) { S with live:=S.live.take n } p else False
def giveTW:List Nat→List AV→St→(List AV→St→Prop)→Prop
 | [],T,S,K=>K T S
 | t :: l,T,S,K =>
  match T[t]? with
  | some v=>giveW S v fun v' S'=>giveTW l (T.set t v') S' K
  | none=>False
def landM (P:Program) (n0 l0 len:Nat) (an:Ann) (T:List AV) (S:St) (p:an.α→Prop):Prop:=
 mintW P an.mint T S fun T' S'=>mintBW P an.mintB S' fun S''=>giveTW an.give T' S'' fun T2 S2=>landW n0 l0 len an T2 S2 p
def forkT:List Nat→List AV→(List AV→Prop)→Prop
 | [],T,K=>K T
 | t :: l,T,K =>
  match T[t % 1000]? with
  | some (.bool b)=>(b = true→forkT l (T.set (t % 1000) (.bool true)) K)∧(b = false→forkT l (T.set (t % 1000) (.bool false)) K)
  | some (.int k n)=>if t < 1000 then forkT l T K else (n = 0∨n = 1)∧(n = 0→forkT l (T.set (t % 1000) (.int k 0)) K)∧(n = 1→forkT l (T.set (t % 1000) (.int k 1)) K)
  | _=>forkT l T K
theorem set_same {T:List AV} {t:Nat} {v:AV} (h:T[t]? = some v):T.set t v = T:=by
 apply List.ext_getElem?
 intro j
 rw [List.getElem?_set]
 by_cases hj:t = j
 ·subst hj
  have hlt:=(List.getElem?_eq_some_iff.1 h).1
  rw [if_pos rfl,if_pos hlt,h]
 ·simp [hj]
theorem forkT_imp:∀ {l:List Nat} {T:List AV} {K:List AV→Prop},forkT l T K→K T
 | [],_,_,h=>h
 | t :: l,T,K,h=>by
  simp only [forkT] at h
  split at h
  ·rename_i b hb
   have e:=set_same hb
   cases b with
   | true=>have:=forkT_imp (h.1 rfl); rwa [e] at this
   | false=>have:=forkT_imp (h.2 rfl); rwa [e] at this
  ·rename_i k n hb
   have e:=set_same hb
   split at h
   ·exact forkT_imp h
   ·obtain ⟨hn,h0,h1⟩:=h
    rcases hn with rfl | rfl
    ·have:=forkT_imp (h0 rfl); rwa [e] at this
    ·have:=forkT_imp (h1 rfl); rwa [e] at this
  ·exact forkT_imp h
abbrev Mk:=List AV→St→(List AV→St→Prop)→Prop
def idMk:Mk:=fun T S p=>p T S
def unrollW (f:WStep):Nat→WStep
 | 0=>fun _ _ _=>False
 | n + 1=>fun T S K=>f T S fun e T' S' =>
  match e with
  | .normal=>unrollW f n T' S' K
  | e=>K e T' S'
def annW (P:Program) (mk:Mk) (an:Ann) (f:WStep):WStep:=fun T S K =>
 match an.link with
 | none =>
  landM P S.boxes.length S.live.length T.length an T S (fun _=>True) ∧
  ∀ x,an.I x→forkT an.bools (headT T.length an.slots (an.vals x)) fun T'=>mk T' (an.sS x) fun T' S0=>f T' S0 fun e T'' S'' =>
   match e with
   | .normal=>landW S.boxes.length S.live.length T.length an T'' S'' fun y=>an.μ y < an.μ x
   | e=>K e T'' S''
 | some r =>
  landM P S.boxes.length S.live.length T.length an T S (r T) ∧
  ∀ x,an.I x→r T x→forkT an.bools (headT T.length an.slots (an.vals x)) fun T'=>mk T' (an.sS x) fun T' S0=>f T' S0 fun e T'' S'' =>
   match e with
   | .normal=>landW S.boxes.length S.live.length T.length an T'' S'' fun y=>r T y∧an.μ y < an.μ x
   | e=>K e T'' S''
def peelW (f g:WStep):Nat→WStep
 | 0=>g
 | n + 1=>fun T S K=>f T S fun e T' S' =>
  match e with
  | .normal=>peelW f g n T' S' K
  | e=>K e T' S'
def loopW (P:Program) (mk:Mk) (an:Option Ann) (f:WStep):WStep:=fun T S K =>
 match an with
 | none=>False
 | some an =>
  match an.unroll with
  | n + 1=>unrollW f (n + 1) T S K
  | 0=>peelW f (annW P mk an f) an.peel T S K
def firstReg:Code→Nat
 | .region id _ _=>id
 | .seq a _=>firstReg a
 | .block _ b | .loop b | .scope b=>firstReg b
 | _=>0
def cutW (P:Program) (mk:Mk) (an:Option Ann) (f g:WStep):WStep:=fun T S K =>
 match an with
 | none=>f T S (seqK g K)
 | some an=>(f T S fun e T' S' =>
   match e with
   | .normal=>landM P S.boxes.length S.live.length T.length an T' S' (an.rel T)
   | e=>K e T' S') ∧
  ∀ x,an.I x→an.rel T x→forkT an.bools (headT T.length an.slots (an.vals x)) fun T'=>mk T' (an.sS x) fun T' S0=>g T' S0 K
abbrev cutAt (id:Nat):Nat:=1000000 + id
abbrev Ld:=Nat→Option (List AV→St→Prop)
def noLd:Ld:=fun _=>none
def ldOf (P:Program) (n0 l0 len:Nat) (A:Nat→Option Ann) (p:Nat→Prop):Ld:=fun l=>(A l).map fun an T S=>landM P n0 l0 len an T S fun y=>p (an.μ y)
def jumpK (P:Program) (n0 l0 len:Nat) (A:Nat→Option Ann) (ls:List Nat) (p:Nat→Prop) (K:WK):WK:=fun e T S =>
 match e with
 | .goto l =>
  if l ∈ ls then
   match A l with
   | none=>False
   | some an=>landM P n0 l0 len an T S fun y=>p (an.μ y)
  else K (.goto l) T S
 | e=>K e T S
def allL (p:Nat→Prop):List Nat→Prop
 | []=>True
 | l :: ls=>p l∧allL p ls
theorem allL_mem {p:Nat→Prop}:∀ {ls:List Nat},allL p ls→∀ l ∈ ls,p l
 | [],_,l,h=>by simp at h
 | a :: ls,h,l,hl=>by
  rcases List.mem_cons.1 hl with rfl | hl
  ·exact h.1
  ·exact allL_mem h.2 l hl
def scopeW (P:Program) (mk:Mk) (A:Nat→Option Ann) (ls:List Nat) (f:Ld→WStep) (k:Ld→Nat→Option WStep):WStep:=fun T S K =>
 if ls.Nodup then
  f (ldOf P S.boxes.length S.live.length T.length A fun _=>True) T S (jumpK P S.boxes.length S.live.length T.length A ls (fun _=>True) K) ∧
  allL (fun l=>match A l with
   | some an=>∀ x,an.I x→forkT an.bools (headT T.length an.slots (an.vals x)) fun T' =>
    match k (ldOf P S.boxes.length S.live.length T.length A fun m=>m < an.μ x) l with
    | some g=>mk T' (an.sS x) fun T' S0=>g T' S0 (jumpK P S.boxes.length S.live.length T.length A ls (fun m=>m < an.μ x) K)
    | none=>False
   | none=>True) ls
 else False
def labelsOf:Code→List Nat
 | .seq a b=>labelsOf a ++ labelsOf b
 | .label l=>[l]
 | _=>[]
structure Anns where
 loop:Nat→Option Ann
 label:Nat→Option Ann
mutual
def codeW (P:Program) (mk:Mk) (G:Glob) (X:Shapes) (R:Callee) (C:CCallee) (A:Anns) (m:List Bool):Code→Ld→WStep
 | .skip=>fun _ T S K=>K .normal T S
 | .region _ ops draw=>fun _ T S K=>regionW P G X R C ops.toList draw T S fun T' S'=>mk (maskA m T') S' (K .normal)
 | .seq a b=>fun ld=>cutW P mk (A.loop (cutAt (firstReg b))) (codeW P mk G X R C A m a ld) (codeW P mk G X R C A m b ld)
 | .cond c x y=>fun _ T S K =>
  match evA G T c with
  | .bool true=>codeW P mk G X R C A m x noLd T S K
  | .bool false=>codeW P mk G X R C A m y noLd T S K
  | _=>False
 | .block id b=>fun _ T S K=>codeW P mk G X R C A m b noLd T S (blockK id K)
 | .loop b=>fun _=>loopW P mk (A.loop (firstReg b)) (codeW P mk G X R C A m b noLd)
 | .exit id=>fun _ T S K=>K (.exit id) T S
 | .scope b=>fun _=>scopeW P mk A.label (labelsOf b) (codeW P mk G X R C A m b) (fromW P mk G X R C A m b)
 | .label l=>fun ld T S K =>
  match ld l with
  | some p=>p T S
  | none=>K .normal T S
 | .goto l=>fun _ T S K=>K (.goto l) T S
 | .ret=>fun _ T S K=>K .ret T S
 | .rangeFunc ..=>fun _ _ _ _=>False
 | .refuse _=>fun _ _ _ _=>False
def fromW (P:Program) (mk:Mk) (G:Glob) (X:Shapes) (R:Callee) (C:CCallee) (A:Anns) (m:List Bool):Code→Ld→Nat→Option WStep
 | .seq a b=>fun ld l =>
  match fromW P mk G X R C A m a ld l with
  | some f=>some fun T S K=>f T S (seqK (codeW P mk G X R C A m b ld) K)
  | none=>fromW P mk G X R C A m b ld l
 | .label l'=>fun _ l=>if l' == l then some fun T S K=>K .normal T S else none
 | _=>fun _ _=>none
end
def WOk (P:Program) (G:Glob) (N0:Nat→Prop) (w0:World) (I0:Nat→Nat→Prop) (f:WStep) (c:Code):Prop:=
 ∀ (T:List AV) (S:St) (K:WK) (E:Env) (a:Act) (w:World) (Q:Exit→Act→World→Prop),f T S K→SR P G N0 w0 I0 S E w→TR E w T a.tmps →
  (∀ x T' S' E' w' a',K x T' S'→SR P G N0 w0 I0 S' E' w'→Env.Le E E' w w'→TR E' w' T' a'.tmps→a'.defers = a.defers→Q x.to a' w')→c.wp P Q a w
section
variable {P : Program} {G : Glob} {N0 : Nat → Prop} {w0 : World} {I0 : Nat → Nat → Prop}
theorem regionW_ok {X:Shapes} {R:Callee} {C:CCallee} (hm:P.follows .mixedOrders = true) (hR:CalleeOk P G R) (hC:ICalleeOk P G (lowC C)) {id:Nat} {ops:Array Oper} {draw:Bool} {m:List Bool} :
  WOk P G N0 w0 I0 (fun T S K=>regionW P G X R C ops.toList draw T S fun T' S'=>K .normal (maskA m T') S') (.region id ops draw):=by
 intro T S K E a w Q h hS hT hQ
 unfold regionW at h
 split at h
 ·rename_i hd
  subst hd
  split at h
  case isFalse=>exact h.elim
  rename_i ho
  obtain ⟨lg,T',S',h1,h⟩:=logW_imp h
  split at h
  case isFalse=>exact h.elim
  rename_i hc
  have hok:ICalleeOk P G (lowC (drawC C)):=fun f args S r S' h=>by
   rw [drawC_low] at h
   split at h
   ·exact locC_ok hC f args S r S' h
   ·exact noC_ok f args S r S' h
  have hlc:LocC (lowC (drawC C)):=fun f args S S2 h=>by
   rw [drawC_low]
   by_cases hl:lkOn C f = true
   ·rw [if_pos hl]; exact locC_loc (lowC C) f args S S2 h
   ·rw [if_neg hl]; exact noC_loc f args S S2 h
  have:=drawA_wp (C:=lowC (drawC C)) (lk:=lkOn C) (id:=id) hm hR hok hlc (fun f e args S=>by rw [drawC_low,e,if_neg (by simp)]; rfl) ho h1 hc (hS.roomFor ops.toList) hT (Q:=Q) fun E' w' a' k1 k2 k3 k4=>hQ .normal _ _ E' w' a' h k1 k2 (k3.mask' m) k4
  simpa using this
 ·rename_i hd
  have hd':draw = false:=by simpa using hd
  subst hd'
  refine wp_region_list ?_
  have:=listW_wp (N0:=N0) (w0:=w0) (I0:=I0) hR hC (Q:=Q) (hS.roomFor ops.toList) hT h fun T' S' E' w' a' k0 k1 k2 k3 k4=>hQ .normal _ _ E' w' a' k0 k1 k2 (k3.mask' m) k4
  simpa using this
theorem seqW_ok {f g:WStep} {c d:Code} (hf:WOk P G N0 w0 I0 f c) (hg:WOk P G N0 w0 I0 g d):WOk P G N0 w0 I0 (fun T S K=>f T S (seqK g K)) (.seq c d):=by
 intro T S K E a w Q h hS hT hQ
 refine wp_seq (hf T S _ E a w _ h hS hT fun x T' S' E' w' a' hk k1 k2 k3 k4=>?_)
 cases x with
 | normal=>exact hg T' S' K E' a' w' Q hk k1 k3 fun x T2 S2 E2 w2 a2 l0 l1 l2 l3 l4=>hQ x T2 S2 E2 w2 a2 l0 l1 (k2.trans l2) l3 (l4.trans k4)
 | exit id=>exact hQ _ _ _ E' w' a' hk k1 k2 k3 k4
 | goto l=>exact hQ _ _ _ E' w' a' hk k1 k2 k3 k4
 | ret=>exact hQ _ _ _ E' w' a' hk k1 k2 k3 k4
theorem blockW_ok {f:WStep} {c:Code} {id:Nat} (hf:WOk P G N0 w0 I0 f c):WOk P G N0 w0 I0 (fun T S K=>f T S (blockK id K)) (.block id c):=by
 intro T S K E a w Q h hS hT hQ
 refine wp_block (hf T S _ E a w _ h hS hT fun x T' S' E' w' a' hk k1 k2 k3 k4=>?_)
 cases x with
 | normal=>exact hQ _ _ _ E' w' a' hk k1 k2 k3 k4
 | goto l=>exact hQ _ _ _ E' w' a' hk k1 k2 k3 k4
 | ret=>exact hQ _ _ _ E' w' a' hk k1 k2 k3 k4
 | exit id' =>
  simp only [blockK] at hk
  show (if id' = id then Q .normal a' w' else Q (.exit id') a' w')
  split at hk
  ·rename_i e; rw [if_pos e]; exact hQ _ _ _ E' w' a' hk k1 k2 k3 k4
  ·rename_i e; rw [if_neg e]; exact hQ _ _ _ E' w' a' hk k1 k2 k3 k4
theorem rep_mint {E E':Env} {w:World} {sz0 sz L:Nat} {v:Value} (h:Rep E w (.sl sz0 [] .nil) v) (hk:E'.K L 0 (.slice none 0 0)):Rep E' w (.sl sz [] (.tok L)) v:=by
 cases h with | sl _ _ _ A cap u hcap hmax hA hsz hcl ho hr h1 =>
 simp only [OwnOk] at ho
 injection ho with h1' h2 h3
 subst h1'; subst h3
 exact .sl sz [] (.tok L) none 0 u (by simp) (by simp [maxLen]) (.inl rfl) (by simp) (by simp) hk (by simp) h1
theorem mintW_ok {E0:Env} {w1 w:World} {tm:Array Value}:∀ {l:List (Nat × TypeId)} {T:List AV} {S:St} {E:Env} {K:List AV→St→Prop},mintW P l T S K→SR P G N0 w0 I0 S E w→Env.Le E0 E w1 w→TR E w T tm →
  ∃ T' S' E',K T' S'∧S'.boxes = S.boxes∧SR P G N0 w0 I0 S' E' w∧Env.Le E0 E' w1 w∧TR E' w T' tm
 | [],T,S,E,K,h,hS,hL,hT=>⟨T,S,E,h,rfl,hS,hL,hT⟩
 | (t,e) :: l,T,S,E,K,h,hS,hL,hT=>by
  simp only [mintW] at h
  split at h
  ·rename_i sz0 es sz ht hs
   split at h
   case h_2=>exact mintW_ok h hS hL hT
   obtain ⟨hS',hL'⟩:=hS.mint (e:=e) hs
   obtain ⟨T',S',E',h1,h2,h3⟩:=mintW_ok (tm:=tm) h hS' (hL.trans hL') (by
    refine ⟨by simp [hT.1],fun i c v hi hv=>?_⟩
    rw [List.getElem?_set] at hi
    by_cases hj:t = i
    ·subst hj
     have hlt:=(List.getElem?_eq_some_iff.1 ht).1
     rw [if_pos rfl,if_pos hlt] at hi
     injection hi with hi
     subst hi
     exact rep_mint (hT.2 t _ v ht hv) (.inr ⟨rfl,rfl,rfl⟩)
    ·rw [if_neg hj] at hi
     exact (hT.2 i c v hi hv).le hL')
   exact ⟨T',S',E',h1,h2,h3⟩
  ·exact mintW_ok h hS hL hT
theorem lookup_zip {g:Nat→AV}:∀ {slots:List Nat} {vs:List AV} {i:Nat} {v:AV},slots.map g = vs→(slots.zip vs).lookup i = some v→v = g i
 | [],vs,i,v,h,hl=>by simp at hl
 | a :: slots,[],i,v,h,hl=>by simp at hl
 | a :: slots,x :: vs,i,v,h,hl=>by
  simp only [List.map_cons,List.cons.injEq] at h
  simp only [List.zip_cons_cons,List.lookup_cons] at hl
  split at hl
  ·rename_i e
   simp only [beq_iff_eq] at e
   injection hl with hl
   rw [← hl,← h.1,e]
  ·exact lookup_zip h.2 hl
theorem headT_rep {E:Env} {w:World} {T:List AV} {tm:Array Value} (hT:TR E w T tm) {len:Nat} {slots:List Nat} {vs:List AV} (hl:T.length = len) (h:slots.map (fun i=>T.getD i (.tup [])) = vs):TR E w (headT len slots vs) tm:=by
 refine ⟨by simp only [headT,List.length_map,List.length_range]; rw [← hl]; exact hT.1,fun i c v hi hv=>?_⟩
 simp only [headT,List.getElem?_map] at hi
 cases hr:(List.range len)[i]? with
 | none=>simp [hr] at hi
 | some j =>
  have hj:j = i:=by
   have:=List.getElem?_eq_some_iff.1 hr
   obtain ⟨h1,h2⟩:=this
   simpa using h2.symm
  subst hj
  rw [hr] at hi
  simp only [Option.map_some,Option.some.injEq] at hi
  cases hlk:(slots.zip vs).lookup j with
  | none=>rw [hlk] at hi; simp at hi; subst hi; exact .junk v
  | some x =>
   rw [hlk] at hi
   simp only [Option.getD_some] at hi
   subst hi
   rw [lookup_zip h hlk]
   have:=hT.get j
   have hv':tm.getD j undef = v:=by
    have hlt:=(Array.getElem?_eq_some_iff.1 hv).1
    simp only [Array.getD,hlt,dif_pos]
    exact (Array.getElem?_eq_some_iff.1 hv).2
   rw [hv'] at this
   exact this
theorem landV_ok {n0 len:Nat} {an:Ann} {T:List AV} {S S0:St} {p:an.α→Prop} {E0 E:Env} {w1 w:World} {tm:Array Value} (h:landV n0 len an T S p) (hS0:SR P G N0 w0 I0 S0 E0 w1) (hn:S0.boxes.length = n0)
  (hS:SR P G N0 w0 I0 S E w) (hL:Env.Le E0 E w1 w) (hT:TR E w T tm):∃ y E',SR P G N0 w0 I0 (an.sS y) E' w∧Env.Le E0 E' w1 w∧TR E' w (headT len an.slots (an.vals y)) tm∧an.I y∧p y:=by
 unfold landV at h
 split at h
 ·rename_i hle
  obtain ⟨hle,hlen⟩:=hle
  obtain ⟨y,⟨h1⟩,h2,h3,h4⟩:=h
  obtain ⟨S2,h2,⟨h2'⟩⟩:=someK_imp h2
  subst h2'
  have hT1:=headT_rep hT hlen h1
  unfold cutTo at h2
  split at h2
  ·injection h2 with h2
   rw [h2] at hS
   exact ⟨y,E,hS,hL,hT1,h3,h4⟩
  ·split at h2
   ·rename_i hok
    simp only [Bool.and_eq_true] at hok
    injection h2 with h2
    have hc:=hS.cut hok.2
    rw [h2] at hc
    refine ⟨y,_,hc,⟨hL.I,fun b x hb=>?_,hL.K,hL.Z⟩,⟨hT1.1,fun i c v hi hv=>(hT1.2 i c v hi hv).cut (pb2 (List.all_eq_true.1 hok.1 c (List.mem_of_getElem? hi)))⟩,h3,h4⟩
    have:=(hS0.Blt b x hb).1
    have hlt:b < an.nb:=by omega
    simp [cutB,hlt,hL.B b x hb]
   ·cases h2
 ·exact h.elim
theorem landW_ok {n0 l0 len:Nat} {an:Ann} {T:List AV} {S S0:St} {p:an.α→Prop} {E0 E:Env} {w1 w:World} {tm:Array Value} (h:landW n0 l0 len an T S p) (hS0:SR P G N0 w0 I0 S0 E0 w1) (hn:S0.boxes.length = n0) (hl0:S0.live.length = l0)
  (hS:SR P G N0 w0 I0 S E w) (hL:Env.Le E0 E w1 w) (hT:TR E w T tm):∃ y E',SR P G N0 w0 I0 (an.sS y) E' w∧Env.Le E0 E' w1 w∧TR E' w (headT len an.slots (an.vals y)) tm∧an.I y∧p y:=by
 unfold landW at h
 split at h
 ·exact landV_ok h hS0 hn hS hL hT
 ·rename_i n _
  split at h
  ·rename_i hc
   refine landV_ok h hS0 hn (hS.cutK hc.2) ⟨hL.I,hL.B,fun t m v hk=>⟨hL.K t m v hk,?_⟩,hL.Z⟩ ⟨by rw [List.length_map]; exact hT.1,fun i c v hi hv=>?_⟩
   ·obtain ⟨m',e,hm,_⟩:=hS0.Klt t m v hk
    have:=(List.getElem?_eq_some_iff.1 hm).1
    omega
   ·rw [List.getElem?_map] at hi
    cases hT':T[i]? with
    | none=>simp [hT'] at hi
    | some a =>
     simp [hT'] at hi
     subst hi
     exact (hT.2 i a v hT' hv).stripT
  ·exact h.elim
theorem SR.setBox {S:St} {E:Env} {w:World} (h:SR P G N0 w0 I0 S E w) {id:Nat} {cs cs':List AV} (hb:S.boxes[id]? = some (some cs)) (hr:isRow cs = true) (hr':isRow cs' = true) (hlen:cs'.length = cs.length)
  (hrep:∀ (i:Nat) (c':AV) (v:Value),cs'[i]? = some c'→(∀ c,cs[i]? = some c→Rep E w c v)→Rep E w c' v):SR P G N0 w0 I0 { S with boxes:=S.boxes.set id (some cs') } E w:=by
 refine ⟨h.below,h.n0,h.Ilt,h.Iold,fun id' b hB=>?_,h.Binj,fun id' cs1 hi=>?_,h.glob,fun id' hi=>?_,h.Klt,h.Kblk,h.live⟩
 ·obtain ⟨a1,a2,a3,a4⟩:=h.Blt id' b hB
  refine ⟨by simpa using a1,a2,a3,fun o ho=>?_⟩
  by_cases e:id = id'
  ·subst e; exact absurd (a4 o ho) (Frz.not_row hb hr)
  ·exact (a4 o ho).set e
 ·simp only [List.getElem?_set] at hi
  split at hi
  ·rename_i e
   subst e
   split at hi
   ·simp only [Option.some.injEq] at hi
    subst hi
    obtain ⟨blk,h1,hx⟩:=h.box id cs hb
    obtain ⟨arr,ty,h2,h3,h4⟩:=hx.cells hr
    refine ⟨blk,h1,.row arr ty hr' h2 (by omega) fun i c v hc hv=>⟨hrep i c v hc fun c0 hc0=>(h4 i c0 v hc0 hv).1,?_⟩⟩
    have hlt:i < cs.length:=by
     have:=(List.getElem?_eq_some_iff.1 hc).1
     omega
    exact (h4 i cs[i] v (List.getElem?_eq_getElem hlt) hv).2
   ·cases hi
  ·exact h.box id' cs1 hi
 ·simp only [List.getElem?_set] at hi
  split at hi
  ·split at hi <;> simp at hi
  ·exact h.hole id' hi
theorem rep_none {E:Env} {w:World} {sz sz':Nat} {o:Own} {v:Value} (h:Rep E w (.sl sz [] o) v):Rep E w (.sl sz' [] .no) v:=by
 cases h with
 | sl _ _ _ A cap u hcap hmax hA hsz hcl ho hr h1 =>
  exact .sl sz' [] .no A cap u hcap hmax (.inl rfl) (by simp) (by simp) trivial (by simp) h1
theorem mintBW_ok {E0:Env} {w1 w:World} {tm:Array Value} {T:List AV}:∀ {l:List (Nat × TypeId)} {S:St} {E:Env} {K:St→Prop},mintBW P l S K→SR P G N0 w0 I0 S E w→Env.Le E0 E w1 w→TR E w T tm →
  ∃ S' E',K S'∧S'.boxes.length = S.boxes.length∧SR P G N0 w0 I0 S' E' w∧Env.Le E0 E' w1 w∧TR E' w T tm
 | [],S,E,K,h,hS,hL,hT=>⟨S,E,h,rfl,hS,hL,hT⟩
 | (b,e) :: l,S,E,K,h,hS,hL,hT=>by
  simp only [mintBW] at h
  split at h
  ·rename_i cs sz hb hs
   split at h
   case h_2=>exact mintBW_ok h hS hL hT
   rename_i sz0 hcs
   by_cases he:1000000≤e
   ·rw [if_pos he] at h
    split at h
    case isFalse=>exact mintBW_ok h hS hL hT
    rename_i hrow
    have hS2:=hS.setBox (id:=b % 1000) (cs:=cs) (cs':=cs.set (b / 1000) (.sl sz [] .no)) hb hrow.1 hrow.2 (by simp) (fun i c' v hc hv=>by
     rw [List.getElem?_set] at hc
     split at hc
     ·rename_i e1
      subst e1
      split at hc
      case isFalse=>cases hc
      injection hc with hc; subst hc
      exact rep_none (hv _ hcs)
     ·exact hv _ hc)
    obtain ⟨S',E',h1,h2,h3⟩:=mintBW_ok (tm:=tm) (T:=T) h hS2 hL hT
    exact ⟨S',E',h1,by simpa using h2,h3⟩
   rw [if_neg he] at h
   split at h
   case isFalse=>exact mintBW_ok h hS hL hT
   rename_i hrow
   obtain ⟨hS',hL'⟩:=hS.mint (e:=e) (by rw [Nat.mod_eq_of_lt (Nat.lt_of_not_le he)] at hs; exact hs)
   have hS2:=hS'.setBox (id:=b % 1000) (cs:=cs) (cs':=cs.set (b / 1000) (.sl sz [] (.tok S.live.length))) hb hrow.1 hrow.2 (by simp) (fun i c' v hc hv=>by
    rw [List.getElem?_set] at hc
    split at hc
    ·rename_i e1
     subst e1
     split at hc
     case isFalse=>cases hc
     injection hc with hc; subst hc
     exact rep_mint (hv _ hcs) (.inr ⟨rfl,rfl,rfl⟩)
    ·exact hv _ hc)
   obtain ⟨S',E',h1,h2,h3⟩:=mintBW_ok (tm:=tm) (T:=T) h hS2 (hL.trans hL') (hT.le hL')
   exact ⟨S',E',h1,by simpa using h2,h3⟩
  ·exact mintBW_ok h hS hL hT
theorem giveTW_ok {E0:Env} {w1 w:World} {tm:Array Value}:∀ {l:List Nat} {T:List AV} {S:St} {E:Env} {K:List AV→St→Prop},giveTW l T S K→SR P G N0 w0 I0 S E w→Env.Le E0 E w1 w→TR E w T tm →
  ∃ T' S' E',K T' S'∧SR P G N0 w0 I0 S' E' w∧Env.Le E0 E' w1 w∧TR E' w T' tm
 | [],T,S,E,K,h,hS,hL,hT=>⟨T,S,E,h,hS,hL,hT⟩
 | t :: l,T,S,E,K,h,hS,hL,hT=>by
  simp only [giveTW] at h
  split at h
  ·rename_i v hv
   obtain ⟨u,S1,h1,h2⟩:=giveW_imp h
   have hlt:=(List.getElem?_eq_some_iff.1 hv).1
   have hlt':t < tm.size:=hT.1 ▸ hlt
   have hr:=hT.2 t v tm[t] hv (Array.getElem?_eq_getElem hlt')
   obtain ⟨E1,k1,k2,k3⟩:=giveA_ok hS h1 hr
   refine giveTW_ok h2 k1 (hL.trans k2) ⟨by rw [List.length_set]; exact hT.1,fun i c x hi hx=>?_⟩
   rw [List.getElem?_set] at hi
   by_cases e:t = i
   ·subst e
    rw [if_pos rfl,if_pos hlt] at hi
    injection hi with hi; subst hi
    rw [Array.getElem?_eq_getElem hlt'] at hx
    injection hx with hx; subst hx
    exact k3
   ·rw [if_neg e] at hi
    exact (hT.2 i c x hi hx).le k2
  ·exact h.elim
theorem landM_ok {n0 l0 len:Nat} {an:Ann} {T:List AV} {S S0:St} {p:an.α→Prop} {E0 E:Env} {w1 w:World} {tm:Array Value} (h:landM P n0 l0 len an T S p) (hS0:SR P G N0 w0 I0 S0 E0 w1) (hn:S0.boxes.length = n0) (hl0:S0.live.length = l0)
  (hS:SR P G N0 w0 I0 S E w) (hL:Env.Le E0 E w1 w) (hT:TR E w T tm):∃ y E',SR P G N0 w0 I0 (an.sS y) E' w∧Env.Le E0 E' w1 w∧TR E' w (headT len an.slots (an.vals y)) tm∧an.I y∧p y:=by
 obtain ⟨T1,S1,E1,k1,_,k3,k4,k5⟩:=mintW_ok h hS hL hT
 obtain ⟨S2,E2,m1,_,m3,m4,m5⟩:=mintBW_ok k1 k3 k4 k5
 obtain ⟨T3,S3,E3,q1,q3,q4,q5⟩:=giveTW_ok m1 m3 m4 m5
 exact landW_ok q1 hS0 hn hl0 q3 q4 q5
theorem unrollW_ok {f:WStep} {c:Code} (hf:WOk P G N0 w0 I0 f c) (n:Nat):WOk P G N0 w0 I0 (unrollW f n) (.loop c):=by
 have key:∀ n (T:List AV) (S:St) (K:WK) (E:Env) (a:Act) (w:World) (Q:Exit→Act→World→Prop),unrollW f n T S K→SR P G N0 w0 I0 S E w→TR E w T a.tmps →
   (∀ x T' S' E' w' a',K x T' S'→SR P G N0 w0 I0 S' E' w'→Env.Le E E' w w'→TR E' w' T' a'.tmps→a'.defers = a.defers→Q x.to a' w')→Code.rounds P c Q n a w:=by
  intro n
  induction n with
  | zero=>exact fun T S K E a w Q h hS hT hQ=>h.elim
  | succ n ih =>
   intro T S K E a w Q h hS hT hQ
   refine hf T S _ E a w _ h hS hT fun x T2 S2 E2 w2 a2 hk m1 m2 m3 m4=>?_
   cases x with
   | normal=>exact ih T2 S2 K E2 a2 w2 Q hk m1 m3 fun x T3 S3 E3 w3 a3 l0 l1 l2 l3 l4=>hQ x T3 S3 E3 w3 a3 l0 l1 (m2.trans l2) l3 (l4.trans m4)
   | exit id=>exact hQ _ _ _ E2 w2 a2 hk m1 m2 m3 m4
   | goto l=>exact hQ _ _ _ E2 w2 a2 hk m1 m2 m3 m4
   | ret=>exact hQ _ _ _ E2 w2 a2 hk m1 m2 m3 m4
 exact fun T S K E a w Q h hS hT hQ=>wp_loop_rounds n (key n T S K E a w Q h hS hT hQ)
def LoopKey (P:Program) (c:Code) (Q:Exit→Act→World→Prop) (a:Act) (w:World):Prop:=
 ∀ b k cs,∃ e a' w',Q e a' w'∧Arrives P (lone (b.at a (.code c :: .inLoop c :: k)) cs w) b k cs e a' w'
theorem key_wp {c:Code} {Q:Exit→Act→World→Prop} {a:Act} {w:World} (h:LoopKey P c Q a w):(Code.loop c).wp P Q a w:=fun b k cs=>by
 obtain ⟨e,a',w',hq,harr⟩:=h b k cs
 exact ⟨e,a',w',hq,.of_steps (.one step_loop) harr⟩
theorem key_step {c:Code} {Q:Exit→Act→World→Prop} {a:Act} {w:World} (h:c.wp P (Exit.then (LoopKey P c Q) Q) a w):LoopKey P c Q a w:=fun b k cs=>by
 obtain ⟨e,a₁,w₁,hq,harr⟩:=h b (.inLoop c :: k) cs
 cases e with
 | normal =>
  obtain ⟨e₂,a₂,w₂,hq₂,harr₂⟩:=hq b k cs
  exact ⟨e₂,a₂,w₂,hq₂,.of_steps (Steps.trans harr (.one step_inLoop)) harr₂⟩
 | exit id=>exact ⟨_,a₁,w₁,hq,.pass (x:=.inLoop c) rfl (fun _ _=>.inl (by simp)) harr⟩
 | goto l=>exact ⟨_,a₁,w₁,hq,.pass (x:=.inLoop c) rfl (fun _ _=>.inl (by simp)) harr⟩
 | ret=>exact ⟨_,a₁,w₁,hq,.pass (x:=.inLoop c) rfl (fun _ _=>.inl (by simp)) harr⟩
 | panic ch=>exact ⟨_,a₁,w₁,hq,.pass (x:=.inLoop c) rfl (fun _ _=>.inl (by simp)) harr⟩
 | outgrown=>exact ⟨_,a₁,w₁,hq,.pass (x:=.inLoop c) rfl (fun _ _=>.inl (by simp)) harr⟩
def KeyOk (P:Program) (G:Glob) (N0:Nat→Prop) (w0:World) (I0:Nat→Nat→Prop) (f:WStep) (c:Code):Prop:=
 ∀ (T:List AV) (S:St) (K:WK) (E:Env) (a:Act) (w:World) (Q:Exit→Act→World→Prop),f T S K→SR P G N0 w0 I0 S E w→TR E w T a.tmps →
  (∀ x T' S' E' w' a',K x T' S'→SR P G N0 w0 I0 S' E' w'→Env.Le E E' w w'→TR E' w' T' a'.tmps→a'.defers = a.defers→Q x.to a' w')→LoopKey P c Q a w
theorem annW_ok {an:Ann} {f:WStep} {c:Code} (hf:WOk P G N0 w0 I0 f c):KeyOk P G N0 w0 I0 (annW P idMk an f) c:=by
 intro T S K E a w Q h hS hT hQ
 simp only [annW] at h
 split at h
 ·obtain ⟨h0,hr⟩:=h
  obtain ⟨y,E2,l1,l2,l3,l4,_⟩:=landM_ok h0 hS rfl rfl hS (Env.Le.refl E w) hT
  have key:∀ n,∀ (a1:Act) (w1:World),(∃ y E',an.μ y = n∧an.I y∧SR P G N0 w0 I0 (an.sS y) E' w1∧Env.Le E E' w w1∧TR E' w1 (headT T.length an.slots (an.vals y)) a1.tmps∧a1.defers = a.defers)→LoopKey P c Q a1 w1:=by
   intro n
   induction n using Nat.strongRecOn with
   | _ n ih =>
    rintro a1 w1 ⟨y,E',hn,hI,hS',hL',hT',hd'⟩
    refine key_step (hf _ _ _ E' a1 w1 _ (forkT_imp (hr y hI)) hS' hT' fun x T2 S2 E2 w2 a2 hk m1 m2 m3 m4=>?_)
    cases x with
    | normal =>
     obtain ⟨z,E3,q1,q2,q3,q4,q5⟩:=landW_ok hk hS rfl rfl m1 (hL'.trans m2) m3
     exact ih (an.μ z) (by omega) a2 w2 ⟨z,E3,rfl,q4,q1,q2,q3,m4.trans hd'⟩
    | exit id=>exact hQ _ _ _ E2 w2 a2 hk m1 (hL'.trans m2) m3 (m4.trans hd')
    | goto l=>exact hQ _ _ _ E2 w2 a2 hk m1 (hL'.trans m2) m3 (m4.trans hd')
    | ret=>exact hQ _ _ _ E2 w2 a2 hk m1 (hL'.trans m2) m3 (m4.trans hd')
  exact key (an.μ y) a w ⟨y,E2,rfl,l4,l1,l2,l3,rfl⟩
 ·rename_i r _
  obtain ⟨h0,hr⟩:=h
  obtain ⟨y,E2,l1,l2,l3,l4,l5⟩:=landM_ok h0 hS rfl rfl hS (Env.Le.refl E w) hT
  have key:∀ n,∀ (a1:Act) (w1:World),(∃ y E',an.μ y = n∧(an.I y∧r T y)∧SR P G N0 w0 I0 (an.sS y) E' w1∧Env.Le E E' w w1∧TR E' w1 (headT T.length an.slots (an.vals y)) a1.tmps∧a1.defers = a.defers)→LoopKey P c Q a1 w1:=by
   intro n
   induction n using Nat.strongRecOn with
   | _ n ih =>
    rintro a1 w1 ⟨y,E',hn,hI,hS',hL',hT',hd'⟩
    refine key_step (hf _ _ _ E' a1 w1 _ (forkT_imp (hr y hI.1 hI.2)) hS' hT' fun x T2 S2 E2 w2 a2 hk m1 m2 m3 m4=>?_)
    cases x with
    | normal =>
     obtain ⟨z,E3,q1,q2,q3,q4,q5⟩:=landW_ok hk hS rfl rfl m1 (hL'.trans m2) m3
     exact ih (an.μ z) (by have:=q5.2; omega) a2 w2 ⟨z,E3,rfl,⟨q4,q5.1⟩,q1,q2,q3,m4.trans hd'⟩
    | exit id=>exact hQ _ _ _ E2 w2 a2 hk m1 (hL'.trans m2) m3 (m4.trans hd')
    | goto l=>exact hQ _ _ _ E2 w2 a2 hk m1 (hL'.trans m2) m3 (m4.trans hd')
    | ret=>exact hQ _ _ _ E2 w2 a2 hk m1 (hL'.trans m2) m3 (m4.trans hd')
  exact key (an.μ y) a w ⟨y,E2,rfl,⟨l4,l5⟩,l1,l2,l3,rfl⟩
theorem peelW_ok {f g:WStep} {c:Code} (hf:WOk P G N0 w0 I0 f c) (hg:KeyOk P G N0 w0 I0 g c):∀ n,KeyOk P G N0 w0 I0 (peelW f g n) c
 | 0=>hg
 | n + 1=>fun T S K E a w Q h hS hT hQ=>by
  refine key_step (hf T S _ E a w _ h hS hT fun x T2 S2 E2 w2 a2 hk m1 m2 m3 m4=>?_)
  cases x with
  | normal=>exact peelW_ok hf hg n T2 S2 K E2 a2 w2 Q hk m1 m3 fun x T3 S3 E3 w3 a3 l0 l1 l2 l3 l4=>hQ x T3 S3 E3 w3 a3 l0 l1 (m2.trans l2) l3 (l4.trans m4)
  | exit id=>exact hQ _ _ _ E2 w2 a2 hk m1 m2 m3 m4
  | goto l=>exact hQ _ _ _ E2 w2 a2 hk m1 m2 m3 m4
  | ret=>exact hQ _ _ _ E2 w2 a2 hk m1 m2 m3 m4
theorem loopW_ok {an:Option Ann} {f:WStep} {c:Code} (hf:WOk P G N0 w0 I0 f c):WOk P G N0 w0 I0 (loopW P idMk an f) (.loop c):=by
 intro T S K E a w Q h hS hT hQ
 cases an with
 | none=>exact h.elim
 | some an =>
  simp only [loopW] at h
  split at h
  case h_1=>exact unrollW_ok hf _ T S K E a w Q h hS hT hQ
  exact key_wp (peelW_ok hf (annW_ok hf) _ T S K E a w Q h hS hT hQ)
theorem cutW_ok {an:Option Ann} {f g:WStep} {c d:Code} (hf:WOk P G N0 w0 I0 f c) (hg:WOk P G N0 w0 I0 g d):WOk P G N0 w0 I0 (cutW P idMk an f g) (.seq c d):=by
 intro T S K E a w Q h hS hT hQ
 unfold cutW at h
 split at h
 ·exact seqW_ok hf hg T S K E a w Q h hS hT hQ
 ·rename_i an
  obtain ⟨h0,hr⟩:=h
  refine wp_seq (hf T S _ E a w _ h0 hS hT fun e T' S' E' w' a' hk k1 k2 k3 k4=>?_)
  cases e with
  | normal =>
   obtain ⟨z,E2,q1,q2,q3,q4,q5⟩:=landM_ok hk hS rfl rfl k1 k2 k3
   exact hg _ _ K E2 a' w' Q (forkT_imp (hr z q4 q5)) q1 q3 fun e T2 S2 E3 w2 a2 l0 l1 l2 l3 l4=>hQ e T2 S2 E3 w2 a2 l0 l1 (q2.trans l2) l3 (l4.trans k4)
  | exit id=>exact hQ _ _ _ E' w' a' hk k1 k2 k3 k4
  | goto l=>exact hQ _ _ _ E' w' a' hk k1 k2 k3 k4
  | ret=>exact hQ _ _ _ E' w' a' hk k1 k2 k3 k4
theorem wp_scope_inv {b:Code} {Q:Exit→Act→World→Prop} {a:Act} {w:World} (J:Nat→Nat→Act→World→Prop)
  (h0:b.wp P (fun e a' w'=>match e with
   | .goto l=>match findLabel b l with
    | some _=>∃ m,J l m a' w'
    | none=>Q (.goto l) a' w'
   | e=>Q e a' w') a w)
  (hr:∀ l m a w rest,findLabel b l = some rest→J l m a w→rest.wp P (fun e a' w'=>match e with
   | .goto l=>match findLabel b l with
    | some _=>∃ m',m' < m∧J l m' a' w'
    | none=>Q (.goto l) a' w'
   | e=>Q e a' w') a w):(Code.scope b).wp P Q a w:=by
 intro fr k cs
 have key:∀ (m:Nat) l a w rest,findLabel b l = some rest→J l m a w→∃ e a' w',Q e a' w'∧Arrives P (lone (fr.at a (.code rest :: .inScope b :: k)) cs w) fr k cs e a' w':=by
  intro m
  induction m using Nat.strongRecOn with
  | _ m ih =>
   intro l a w rest hl hJ
   obtain ⟨e,a₁,w₁,hq,harr⟩:=hr l m a w rest hl hJ fr (.inScope b :: k) cs
   cases e with
   | normal=>exact ⟨.normal,a₁,w₁,hq,Steps.trans harr (.one step_inScope)⟩
   | exit id=>exact ⟨.exit id,a₁,w₁,hq,fun k' hk=>harr k' (by simp [exitTo,hk])⟩
   | goto l' =>
    simp only at hq
    split at hq
    ·rename_i rest' hr'
     obtain ⟨m',hlt,hJ'⟩:=hq
     obtain ⟨e₂,a₂,w₂,hq₂,harr₂⟩:=ih m' hlt l' a₁ w₁ rest' hr' hJ'
     exact ⟨e₂,a₂,w₂,hq₂,.of_steps (harr _ (by simp [gotoIn,hr'])) harr₂⟩
    ·rename_i hr'
     exact ⟨.goto l',a₁,w₁,hq,fun k' hk=>harr k' (by simp [gotoIn,hr',hk])⟩
   | ret=>exact ⟨_,a₁,w₁,hq,harr⟩
   | panic ch=>exact ⟨_,a₁,w₁,hq,harr⟩
   | outgrown=>exact ⟨_,a₁,w₁,hq,harr⟩
 have fin:∃ e a' w',Q e a' w'∧Arrives P (lone (fr.at a (.code b :: .inScope b :: k)) cs w) fr k cs e a' w':=by
  obtain ⟨e,a₁,w₁,hq,harr⟩:=h0 fr (.inScope b :: k) cs
  cases e with
  | normal=>exact ⟨.normal,a₁,w₁,hq,Steps.trans harr (.one step_inScope)⟩
  | exit id=>exact ⟨.exit id,a₁,w₁,hq,fun k' hk=>harr k' (by simp [exitTo,hk])⟩
  | goto l' =>
   simp only at hq
   split at hq
   ·rename_i rest' hr'
    obtain ⟨m',hJ'⟩:=hq
    obtain ⟨e₂,a₂,w₂,hq₂,harr₂⟩:=key m' l' a₁ w₁ rest' hr' hJ'
    exact ⟨e₂,a₂,w₂,hq₂,.of_steps (harr _ (by simp [gotoIn,hr'])) harr₂⟩
   ·rename_i hr'
    exact ⟨.goto l',a₁,w₁,hq,fun k' hk=>harr k' (by simp [gotoIn,hr',hk])⟩
  | ret=>exact ⟨_,a₁,w₁,hq,harr⟩
  | panic ch=>exact ⟨_,a₁,w₁,hq,harr⟩
  | outgrown=>exact ⟨_,a₁,w₁,hq,harr⟩
 obtain ⟨e,a',w',hq,harr⟩:=fin
 exact ⟨e,a',w',hq,.of_steps (.one step_scope) harr⟩
theorem mem_labelsOf:∀ {b:Code} {l:Nat} {rest:Code},findLabel b l = some rest→l ∈ labelsOf b:=by
 intro b
 induction b with
 | seq a b iha ihb =>
  intro l rest h
  simp only [findLabel] at h
  simp only [labelsOf,List.mem_append]
  cases ha:findLabel a l with
  | some r=>exact .inl (iha ha)
  | none=>rw [ha] at h; exact .inr (ihb h)
 | label l' =>
  intro l rest h
  simp only [findLabel] at h
  split at h
  ·rename_i e; simp at e; simp [labelsOf,e]
  ·cases h
 | _=>intro l rest h; simp [findLabel] at h
def atL (P:Program):Code→Nat→(Exit→Act→World→Prop)→Act→World→Prop
 | .seq x y,l,Q,a,w=>match findLabel x l with
  | some _=>atL P x l (Exit.then (y.wp P Q) Q) a w
  | none=>atL P y l Q a w
 | .label l',l,Q,a,w=>if l' == l then Q .normal a w else True
 | _,_,_,_,_=>True
theorem exit_then_mono {K K':Act→World→Prop} {Q Q':Exit→Act→World→Prop} (hk:∀ a w,K a w→K' a w) (h:∀ e a w,Q e a w→Q' e a w):∀ e a w,Exit.then K Q e a w→Exit.then K' Q' e a w:=by
 intro e a w hq
 cases e <;> first | exact hk _ _ hq | exact h _ _ _ hq
theorem atL_mono:∀ {c:Code} {l:Nat} {Q Q':Exit→Act→World→Prop} {a:Act} {w:World},(∀ e a w,Q e a w→Q' e a w)→atL P c l Q a w→atL P c l Q' a w:=by
 intro c
 induction c with
 | seq x y ihx ihy =>
  intro l Q Q' a w hq h
  simp only [atL] at h ⊢
  split
  ·rename_i r hr
   rw [hr] at h
   exact ihx (exit_then_mono (fun _ _ h=>wp_mono h hq) hq) h
  ·rename_i hr
   rw [hr] at h
   exact ihy hq h
 | label l' =>
  intro l Q Q' a w hq h
  simp only [atL] at h ⊢
  split
  ·rename_i e; rw [if_pos e] at h; exact hq _ _ _ h
  ·trivial
 | _=>intros; simp only [atL]
theorem atL_rest:∀ {c:Code} {l:Nat} {rest:Code} {Q:Exit→Act→World→Prop} {a:Act} {w:World},findLabel c l = some rest→atL P c l Q a w→rest.wp P Q a w:=by
 intro c
 induction c with
 | seq x y ihx ihy =>
  intro l rest Q a w hl h
  simp only [findLabel] at hl
  simp only [atL] at h
  split at hl
  ·rename_i r hr
   simp only [Option.some.injEq] at hl
   subst hl
   rw [hr] at h
   exact wp_seq (ihx hr h)
  ·rename_i hr
   rw [hr] at h
   exact ihy hl h
 | label l' =>
  intro l rest Q a w hl h
  simp only [findLabel] at hl
  simp only [atL] at h
  split at hl
  ·rename_i e
   simp only [Option.some.injEq] at hl
   subst hl
   rw [if_pos e] at h
   exact wp_skip h
  ·cases hl
 | _=>intro l rest Q a w hl; simp [findLabel] at hl
theorem atL_none:∀ {c:Code} {l:Nat} {Q:Exit→Act→World→Prop} {a:Act} {w:World},findLabel c l = none→atL P c l Q a w:=by
 intro c
 induction c with
 | seq x y ihx ihy =>
  intro l Q a w hl
  simp only [findLabel] at hl
  simp only [atL]
  split at hl
  ·cases hl
  ·rename_i hr
   rw [hr]
   exact ihy hl
 | label l' =>
  intro l Q a w hl
  simp only [findLabel] at hl
  simp only [atL]
  split
  ·rename_i e; rw [if_pos e] at hl; cases hl
  ·trivial
 | _=>intros; simp only [atL]
theorem labelsOf_find:∀ {b:Code} {l:Nat},l ∈ labelsOf b→∃ rest,findLabel b l = some rest:=by
 intro b
 induction b with
 | seq a b iha ihb =>
  intro l h
  simp only [labelsOf,List.mem_append] at h
  simp only [findLabel]
  cases ha:findLabel a l with
  | some r=>exact ⟨_,rfl⟩
  | none =>
   rcases h with h | h
   ·obtain ⟨r,hr⟩:=iha h; rw [ha] at hr; cases hr
   ·exact ihb h
 | label l' =>
  intro l h
  simp only [labelsOf,List.mem_singleton] at h
  exact ⟨.skip,by simp [findLabel,h]⟩
 | _=>intro l h; simp [labelsOf] at h
def WOkL (P:Program) (G:Glob) (N0:Nat→Prop) (w0:World) (I0:Nat→Nat→Prop) (f:Ld→WStep) (c:Code):Prop:=
 (labelsOf c).Nodup→∀ (ld:Ld) (T:List AV) (S:St) (K:WK) (E:Env) (a:Act) (w:World) (Q:Exit→Act→World→Prop),f ld T S K→SR P G N0 w0 I0 S E w→TR E w T a.tmps →
  (∀ x T' S' E' w' a',K x T' S'→SR P G N0 w0 I0 S' E' w'→Env.Le E E' w w'→TR E' w' T' a'.tmps→a'.defers = a.defers→Q x.to a' w') →
  (∀ l p,ld l = some p→∀ T' S' E' w' a',p T' S'→SR P G N0 w0 I0 S' E' w'→Env.Le E E' w w'→TR E' w' T' a'.tmps→a'.defers = a.defers→atL P c l Q a' w')→c.wp P Q a w
def FOkL (P:Program) (G:Glob) (N0:Nat→Prop) (w0:World) (I0:Nat→Nat→Prop) (k:Ld→Nat→Option WStep) (c:Code):Prop:=
 (labelsOf c).Nodup→∀ (ld:Ld) (l:Nat) (g:WStep),k ld l = some g→∀ (T:List AV) (S:St) (K:WK) (E:Env) (a:Act) (w:World) (Q:Exit→Act→World→Prop),g T S K→SR P G N0 w0 I0 S E w→TR E w T a.tmps →
  (∀ x T' S' E' w' a',K x T' S'→SR P G N0 w0 I0 S' E' w'→Env.Le E E' w w'→TR E' w' T' a'.tmps→a'.defers = a.defers→Q x.to a' w') →
  (∀ l p,ld l = some p→∀ T' S' E' w' a',p T' S'→SR P G N0 w0 I0 S' E' w'→Env.Le E E' w w'→TR E' w' T' a'.tmps→a'.defers = a.defers→atL P c l Q a' w')→atL P c l Q a w
theorem WOkL.of {f:Ld→WStep} {c:Code} (h:∀ ld,WOk P G N0 w0 I0 (f ld) c):WOkL P G N0 w0 I0 f c:=fun _ ld T S K E a w Q hf hS hT hQ _=>h ld T S K E a w Q hf hS hT hQ
theorem WOkL.no {f:Ld→WStep} {c:Code} (h:WOkL P G N0 w0 I0 f c) (hn:(labelsOf c).Nodup):WOk P G N0 w0 I0 (f noLd) c:=fun T S K E a w Q hf hS hT hQ=>h hn noLd T S K E a w Q hf hS hT hQ fun l p hl=>by cases hl
theorem scopeW_ok {b:Code} {A:Nat→Option Ann} {k:Ld→Nat→Option WStep} (hk:FOkL P G N0 w0 I0 k b) {f:Ld→WStep} (hf:WOkL P G N0 w0 I0 f b) :
  WOk P G N0 w0 I0 (scopeW P idMk A (labelsOf b) f k) (.scope b):=by
 intro T S K E a w Q h hS hT hQ
 unfold scopeW at h
 split at h
 case isFalse=>exact h.elim
 case isTrue hnd =>
 obtain ⟨h0,hr⟩:=h
 -- J l m: the label's state, its number m
 let J:Nat→Nat→Act→World→Prop:=fun l m a' w'=>∃ an y E'',A l = some an∧an.μ y = m∧an.I y∧SR P G N0 w0 I0 (an.sS y) E'' w'∧Env.Le E E'' w w'∧TR E'' w' (headT T.length an.slots (an.vals y)) a'.tmps∧a'.defers = a.defers
 let QJ:(Nat→Prop)→Exit→Act→World→Prop:=fun p e a' w'=>match e with
   | .goto l=>match findLabel b l with
    | some _=>∃ m,p m∧J l m a' w'
    | none=>Q (.goto l) a' w'
   | e=>Q e a' w'
 have QJmono:∀ {p q:Nat→Prop},(∀ m,p m→q m)→∀ e a' w',QJ p e a' w'→QJ q e a' w':=by
  intro p q hpq e a' w' hq
  cases e with
  | goto l =>
   simp only [QJ] at hq ⊢
   split at hq
   ·obtain ⟨m,hm,hj⟩:=hq; exact ⟨m,hpq m hm,hj⟩
   ·exact hq
  | _=>exact hq
 have land:∀ {p:Nat→Prop} {an:Ann} {l:Nat} {T':List AV} {S':St} {E':Env} {w':World} {a':Act},A l = some an→landM P S.boxes.length S.live.length T.length an T' S' (fun y=>p (an.μ y))→SR P G N0 w0 I0 S' E' w'→Env.Le E E' w w'→TR E' w' T' a'.tmps→a'.defers = a.defers→∃ m,p m∧J l m a' w':=by
  intro p an l T' S' E' w' a' hA hj k1 k2 k3 k4
  obtain ⟨y,E2,q1,q2,q3,q4,q5⟩:=landM_ok hj hS rfl rfl k1 k2 k3
  exact ⟨an.μ y,q5,an,y,E2,hA,rfl,q4,q1,q2,q3,k4⟩
 have post:∀ {p:Nat→Prop} {x:AExit} {T':List AV} {S':St} {E':Env} {w':World} {a':Act},jumpK P S.boxes.length S.live.length T.length A (labelsOf b) p K x T' S'→SR P G N0 w0 I0 S' E' w'→Env.Le E E' w w'→TR E' w' T' a'.tmps→a'.defers = a.defers→QJ p x.to a' w':=by
  intro p x T' S' E' w' a' hj k1 k2 k3 k4
  cases x with
  | normal=>exact hQ _ _ _ E' w' a' hj k1 k2 k3 k4
  | exit id=>exact hQ _ _ _ E' w' a' hj k1 k2 k3 k4
  | ret=>exact hQ _ _ _ E' w' a' hj k1 k2 k3 k4
  | goto l =>
   simp only [AExit.to,QJ]
   simp only [jumpK] at hj
   split at hj
   ·rename_i hm
    obtain ⟨rest,hrest⟩:=labelsOf_find hm
    rw [hrest]
    split at hj
    ·exact hj.elim
    ·rename_i an hA
     exact land hA hj k1 k2 k3 k4
   ·rename_i hm
    cases hfl:findLabel b l with
    | some r=>exact absurd (mem_labelsOf hfl) hm
    | none=>exact hQ _ _ _ E' w' a' hj k1 k2 k3 k4
 have key:∀ (m:Nat) (l:Nat) (a1:Act) (w1:World),l ∈ labelsOf b→J l m a1 w1→atL P b l (QJ (· < m)) a1 w1:=by
  intro m
  induction m using Nat.strongRecOn with
  | _ m ih =>
   rintro l a1 w1 hml ⟨an,y,E1,hA,hm,hI,hS1,hL1,hT1,hd1⟩
   have hml':=allL_mem hr l hml
   simp only [hA] at hml'
   have hml2:=forkT_imp (hml' y hI)
   split at hml2
   ·rename_i g hg
    refine hk hnd _ l g hg _ _ _ E1 a1 w1 _ hml2 hS1 hT1 (fun x T' S' E' w' a' hj k1 k2 k3 k4=>?_) (fun l2 p2 hp T' S' E' w' a' hj k1 k2 k3 k4=>?_)
    ·have:=post hj k1 (hL1.trans k2) k3 (k4.trans hd1)
     exact QJmono (fun m' hm'=>by omega) _ _ _ this
    ·simp only [ldOf,Option.map_eq_some_iff] at hp
     obtain ⟨an2,hA2,rfl⟩:=hp
     by_cases hl2:l2 ∈ labelsOf b
     ·obtain ⟨m2,hlt,hJ2⟩:=land (p:=fun m=>m < an.μ y) hA2 hj k1 (hL1.trans k2) k3 (k4.trans hd1)
      exact atL_mono (QJmono fun m' hm'=>by omega) (ih m2 (by omega) l2 a' w' hl2 hJ2)
     ·refine atL_none ?_
      cases hfl:findLabel b l2 with
      | some r=>exact absurd (mem_labelsOf hfl) hl2
      | none=>rfl
   ·exact hml2.elim
 refine wp_scope_inv J ?_ ?_
 ·have:b.wp P (QJ fun _=>True) a w:=by
   refine hf hnd _ T S _ E a w _ h0 hS hT (fun x T' S' E' w' a' hj k1 k2 k3 k4=>post hj k1 k2 k3 k4) (fun l2 p2 hp T' S' E' w' a' hj k1 k2 k3 k4=>?_)
   simp only [ldOf,Option.map_eq_some_iff] at hp
   obtain ⟨an2,hA2,rfl⟩:=hp
   by_cases hl2:l2 ∈ labelsOf b
   ·obtain ⟨m2,_,hJ2⟩:=land (p:=fun _=>True) hA2 hj k1 k2 k3 k4
    exact atL_mono (QJmono fun m' _=>trivial) (key m2 l2 a' w' hl2 hJ2)
   ·refine atL_none ?_
    cases hfl:findLabel b l2 with
    | some r=>exact absurd (mem_labelsOf hfl) hl2
    | none=>rfl
  refine wp_mono this fun e a' w' hq=>?_
  cases e with
  | goto l =>
   simp only [QJ] at hq
   split at hq
   ·rename_i r hr'
    obtain ⟨m,_,hj⟩:=hq
    simp only [hr']
    exact ⟨m,hj⟩
   ·rename_i hr'
    simp only [hr']
    exact hq
  | _=>exact hq
 ·intro l m a1 w1 rest hl hJ
  refine wp_mono (atL_rest hl (key m l a1 w1 (mem_labelsOf hl) hJ)) fun e a' w' hq=>?_
  cases e with
  | goto l' =>
   simp only [QJ] at hq
   split at hq
   ·rename_i r hr'
    obtain ⟨m',hlt,hj⟩:=hq
    simp only [hr']
    exact ⟨m',hlt,hj⟩
   ·rename_i hr'
    simp only [hr']
    exact hq
  | _=>exact hq
theorem skipW_ok (x:AExit) (c:Code) (h:∀ (Q:Exit→Act→World→Prop) (a:Act) (w:World),Q x.to a w→c.wp P Q a w):WOk P G N0 w0 I0 (fun T S K=>K x T S) c:=by
 intro T S K E a w Q hh hS hT hQ
 exact h Q a w (hQ x T S E w a hh hS (Env.Le.refl _ _) hT rfl)
theorem codeW_ok {X:Shapes} {R:Callee} {C:CCallee} (hm:P.follows .mixedOrders = true) (hR:CalleeOk P G R) (hC:ICalleeOk P G (lowC C)) (A:Anns) (m:List Bool):∀ (c:Code),WOkL P G N0 w0 I0 (codeW P idMk G X R C A m c) c∧FOkL P G N0 w0 I0 (fromW P idMk G X R C A m c) c ∧
  (∀ ld l,fromW P idMk G X R C A m c ld l = none ↔ findLabel c l = none)∧WOk P G N0 w0 I0 (codeW P idMk G X R C A m c noLd) c:=by
 intro c
 induction c with
 | skip=>exact ⟨.of fun ld=>by rw [codeW]; exact skipW_ok .normal _ fun Q a w h=>wp_skip h,(fun _ ld l g h=>by simp [fromW] at h),(fun ld l=>by simp [fromW,findLabel]),by rw [codeW]; exact skipW_ok .normal _ fun Q a w h=>wp_skip h⟩
 | region id ops draw=>exact ⟨.of fun ld=>by rw [codeW]; exact regionW_ok hm hR hC,(fun _ ld l g h=>by simp [fromW] at h),(fun ld l=>by simp [fromW,findLabel]),by rw [codeW]; exact regionW_ok hm hR hC⟩
 | seq x y ihx ihy =>
  obtain ⟨hx1,hx2,hx3,hx4⟩:=ihx
  obtain ⟨hy1,hy2,hy3,hy4⟩:=ihy
  refine ⟨?_,?_,?_,?_⟩
  ·intro hnd ld T S K E a w Q h hS hT hQ hL
   simp only [labelsOf,List.nodup_append] at hnd
   rw [codeW] at h
   have hLx:∀ l p,ld l = some p→∀ T' S' E' w' a',p T' S'→SR P G N0 w0 I0 S' E' w'→Env.Le E E' w w'→TR E' w' T' a'.tmps→a'.defers = a.defers→atL P x l (Exit.then (y.wp P Q) Q) a' w':=by
    intro l p hp T' S' E' w' a' hj k1 k2 k3 k4
    have:=hL l p hp T' S' E' w' a' hj k1 k2 k3 k4
    simp only [atL] at this
    split at this
    ·exact this
    ·rename_i hr; exact atL_none hr
   have hLy:∀ l p,ld l = some p→∀ T' S' E' w' a',p T' S'→SR P G N0 w0 I0 S' E' w'→Env.Le E E' w w'→TR E' w' T' a'.tmps→a'.defers = a.defers→atL P y l Q a' w':=by
    intro l p hp T' S' E' w' a' hj k1 k2 k3 k4
    have:=hL l p hp T' S' E' w' a' hj k1 k2 k3 k4
    simp only [atL] at this
    split at this
    ·rename_i r hr
     refine atL_none ?_
     cases hfl:findLabel y l with
     | some r2=>exact absurd rfl (hnd.2.2 l (mem_labelsOf hr) l (mem_labelsOf hfl))
     | none=>rfl
    ·exact this
   unfold cutW at h
   split at h
   case h_2 an _ =>
    obtain ⟨h0,hr⟩:=h
    refine wp_seq (hx1 hnd.1 ld T S _ E a w _ h0 hS hT (fun e T' S' E' w' a' hk k1 k2 k3 k4=>?_) hLx)
    cases e with
    | normal =>
     obtain ⟨z,E2,q1,q2,q3,q4,q5⟩:=landM_ok hk hS rfl rfl k1 k2 k3
     exact hy1 hnd.2.1 ld _ _ K E2 a' w' Q (forkT_imp (hr z q4 q5)) q1 q3 (fun e T2 S2 E3 w2 a2 l0 l1 l2 l3 l4=>hQ e T2 S2 E3 w2 a2 l0 l1 (q2.trans l2) l3 (l4.trans k4)) (fun l p hp T2 S2 E3 w2 a2 l0 l1 l2 l3 l4=>hLy l p hp T2 S2 E3 w2 a2 l0 l1 (q2.trans l2) l3 (l4.trans k4))
    | exit id=>exact hQ _ _ _ E' w' a' hk k1 k2 k3 k4
    | goto l=>exact hQ _ _ _ E' w' a' hk k1 k2 k3 k4
    | ret=>exact hQ _ _ _ E' w' a' hk k1 k2 k3 k4
   refine wp_seq (hx1 hnd.1 ld T S _ E a w _ h hS hT (fun e T' S' E' w' a' hk k1 k2 k3 k4=>?_) (fun l p hp T' S' E' w' a' hj k1 k2 k3 k4=>?_))
   ·cases e with
    | normal =>
     refine hy1 hnd.2.1 ld T' S' K E' a' w' Q hk k1 k3 (fun e T2 S2 E2 w2 a2 l0 l1 l2 l3 l4=>hQ e T2 S2 E2 w2 a2 l0 l1 (k2.trans l2) l3 (l4.trans k4)) (fun l p hp T2 S2 E2 w2 a2 l0 l1 l2 l3 l4=>?_)
     have:=hL l p hp T2 S2 E2 w2 a2 l0 l1 (k2.trans l2) l3 (l4.trans k4)
     simp only [atL] at this
     split at this
     ·rename_i r hr
      refine atL_none ?_
      cases hfl:findLabel y l with
      | some r2=>exact absurd rfl (hnd.2.2 l (mem_labelsOf hr) l (mem_labelsOf hfl))
      | none=>rfl
     ·exact this
    | exit id=>exact hQ _ _ _ E' w' a' hk k1 k2 k3 k4
    | goto l=>exact hQ _ _ _ E' w' a' hk k1 k2 k3 k4
    | ret=>exact hQ _ _ _ E' w' a' hk k1 k2 k3 k4
   ·have:=hL l p hp T' S' E' w' a' hj k1 k2 k3 k4
    simp only [atL] at this
    split at this
    ·exact this
    ·rename_i hr; exact atL_none hr
  ·intro hnd ld l g hg T S K E a w Q h hS hT hQ hL
   simp only [labelsOf,List.nodup_append] at hnd
   have hLx:∀ l p,ld l = some p→∀ T' S' E' w' a',p T' S'→SR P G N0 w0 I0 S' E' w'→Env.Le E E' w w'→TR E' w' T' a'.tmps→a'.defers = a.defers→atL P x l (Exit.then (y.wp P Q) Q) a' w':=by
    intro l p hp T' S' E' w' a' hj k1 k2 k3 k4
    have:=hL l p hp T' S' E' w' a' hj k1 k2 k3 k4
    simp only [atL] at this
    split at this
    ·exact this
    ·rename_i hr; exact atL_none hr
   have hLy:∀ l p,ld l = some p→∀ T' S' E' w' a',p T' S'→SR P G N0 w0 I0 S' E' w'→Env.Le E E' w w'→TR E' w' T' a'.tmps→a'.defers = a.defers→atL P y l Q a' w':=by
    intro l p hp T' S' E' w' a' hj k1 k2 k3 k4
    have:=hL l p hp T' S' E' w' a' hj k1 k2 k3 k4
    simp only [atL] at this
    split at this
    ·rename_i r hr
     refine atL_none ?_
     cases hfl:findLabel y l with
     | some r2=>exact absurd rfl (hnd.2.2 l (mem_labelsOf hr) l (mem_labelsOf hfl))
     | none=>rfl
    ·exact this
   simp only [fromW] at hg
   simp only [atL]
   split at hg
   ·rename_i gx hgx
    simp only [Option.some.injEq] at hg
    subst hg
    cases hfl:findLabel x l with
    | none=>rw [(hx3 ld l).2 hfl] at hgx; cases hgx
    | some r =>
     simp only
     refine hx2 hnd.1 ld l gx hgx T S _ E a w _ h hS hT (fun e T' S' E' w' a' hk k1 k2 k3 k4=>?_) hLx
     cases e with
     | normal=>exact hy1 hnd.2.1 ld T' S' K E' a' w' Q hk k1 k3 (fun e T2 S2 E2 w2 a2 l0 l1 l2 l3 l4=>hQ e T2 S2 E2 w2 a2 l0 l1 (k2.trans l2) l3 (l4.trans k4)) (fun l p hp T2 S2 E2 w2 a2 l0 l1 l2 l3 l4=>hLy l p hp T2 S2 E2 w2 a2 l0 l1 (k2.trans l2) l3 (l4.trans k4))
     | exit id=>exact hQ _ _ _ E' w' a' hk k1 k2 k3 k4
     | goto l=>exact hQ _ _ _ E' w' a' hk k1 k2 k3 k4
     | ret=>exact hQ _ _ _ E' w' a' hk k1 k2 k3 k4
   ·rename_i hgx
    rw [(hx3 ld l).1 hgx]
    simp only
    exact hy2 hnd.2.1 ld l g hg T S K E a w Q h hS hT hQ hLy
  ·intro ld l
   simp only [fromW,findLabel]
   cases hfl:findLabel x l with
   | none =>
    rw [(hx3 ld l).2 hfl]
    exact hy3 ld l
   | some r =>
    cases hgx:fromW P idMk G X R C A m x ld l with
    | none=>rw [(hx3 ld l).1 hgx] at hfl; cases hfl
    | some g=>simp
  ·rw [codeW]; exact cutW_ok hx4 hy4
 | cond c x y ihx ihy =>
  have key:∀ ld,WOk P G N0 w0 I0 (codeW P idMk G X R C A m (.cond c x y) ld) (.cond c x y):=by
   intro ld
   rw [codeW]
   intro T S K E a w Q h hS hT hQ
   have hc:=evA_rep hS.glob hT c
   split at h
   ·rename_i he
    rw [he] at hc
    exact wp_cond (rep_bool hc) (by simpa using ihx.2.2.2 _ _ _ E a w Q h hS hT hQ)
   ·rename_i he
    rw [he] at hc
    exact wp_cond (rep_bool hc) (by simpa using ihy.2.2.2 _ _ _ E a w Q h hS hT hQ)
   ·exact h.elim
  exact ⟨.of key,(fun _ ld l g h=>by simp [fromW] at h),(fun ld l=>by simp [fromW,findLabel]),key _⟩
 | block id b ih =>
  have key:∀ ld,WOk P G N0 w0 I0 (codeW P idMk G X R C A m (.block id b) ld) (.block id b):=fun ld=>by rw [codeW]; exact blockW_ok ih.2.2.2
  exact ⟨.of key,(fun _ ld l g h=>by simp [fromW] at h),(fun ld l=>by simp [fromW,findLabel]),key _⟩
 | loop b ih =>
  have key:∀ ld,WOk P G N0 w0 I0 (codeW P idMk G X R C A m (.loop b) ld) (.loop b):=fun ld=>by rw [codeW]; exact loopW_ok ih.2.2.2
  exact ⟨.of key,(fun _ ld l g h=>by simp [fromW] at h),(fun ld l=>by simp [fromW,findLabel]),key _⟩
 | rangeFunc f ps as b _ _ =>
  have key:∀ ld,WOk P G N0 w0 I0 (codeW P idMk G X R C A m (.rangeFunc f ps as b) ld) (.rangeFunc f ps as b):=fun ld=>by rw [codeW]; intro T S K E a w Q h; exact h.elim
  exact ⟨.of key,(fun _ ld l g h=>by simp [fromW] at h),(fun ld l=>by simp [fromW,findLabel]),key _⟩
 | exit id =>
  have key:∀ ld,WOk P G N0 w0 I0 (codeW P idMk G X R C A m (.exit id) ld) (.exit id):=fun ld=>by rw [codeW]; exact skipW_ok (.exit id) _ fun Q a w h=>wp_exit h
  exact ⟨.of key,(fun _ ld l g h=>by simp [fromW] at h),(fun ld l=>by simp [fromW,findLabel]),key _⟩
 | scope b ih =>
  have key:∀ ld,WOk P G N0 w0 I0 (codeW P idMk G X R C A m (.scope b) ld) (.scope b):=fun ld=>by rw [codeW]; exact scopeW_ok ih.2.1 ih.1
  exact ⟨.of key,(fun _ ld l g h=>by simp [fromW] at h),(fun ld l=>by simp [fromW,findLabel]),key _⟩
 | label l' =>
  refine ⟨?_,?_,fun ld l=>?_,by rw [codeW]; exact skipW_ok .normal _ fun Q a w h=>wp_label h⟩
  ·intro _ ld T S K E a w Q h hS hT hQ hL
   rw [codeW] at h
   split at h
   ·rename_i p hp
    have:=hL l' p hp T S E w a h hS (Env.Le.refl _ _) hT rfl
    simp only [atL,beq_self_eq_true,if_true] at this
    exact wp_label this
   ·exact wp_label (hQ .normal T S E w a h hS (Env.Le.refl _ _) hT rfl)
  ·intro _ ld l g hg T S K E a w Q h hS hT hQ hL
   simp only [fromW] at hg
   split at hg
   ·rename_i he
    simp only [Option.some.injEq] at hg
    subst hg
    simp only [atL,he,if_true]
    exact hQ .normal T S E w a h hS (Env.Le.refl _ _) hT rfl
   ·cases hg
  ·simp only [fromW,findLabel]
   split <;> simp
 | goto l' =>
  have key:∀ ld,WOk P G N0 w0 I0 (codeW P idMk G X R C A m (.goto l') ld) (.goto l'):=fun ld=>by rw [codeW]; exact skipW_ok (.goto l') _ fun Q a w h=>wp_goto h
  exact ⟨.of key,(fun _ ld l g h=>by simp [fromW] at h),(fun ld l=>by simp [fromW,findLabel]),key _⟩
 | ret =>
  have key:∀ ld,WOk P G N0 w0 I0 (codeW P idMk G X R C A m .ret ld) .ret:=fun ld=>by rw [codeW]; exact skipW_ok .ret _ fun Q a w h=>wp_ret h
  exact ⟨.of key,(fun _ ld l g h=>by simp [fromW] at h),(fun ld l=>by simp [fromW,findLabel]),key _⟩
 | refuse s =>
  have key:∀ ld,WOk P G N0 w0 I0 (codeW P idMk G X R C A m (.refuse s) ld) (.refuse s):=fun ld=>by rw [codeW]; intro T S K E a w Q h; exact h.elim
  exact ⟨.of key,(fun _ ld l g h=>by simp [fromW] at h),(fun ld l=>by simp [fromW,findLabel]),key _⟩
end
def fnW (P:Program) (mk:Mk) (G:Glob) (X:Shapes) (R:Callee) (C:CCallee) (A:Anns) (m:List Bool) (f:FuncId) (args:List AV) (S:St) (K:AV→St→Prop):Prop:=
 match P.funcs[f]? with
 | none=>False
 | some fn =>
  match fn.body with
  | none=>False
  | some c =>
   if fn.name == "runtime.NumGoroutine" then False else
   codeW P mk G X R C A m c noLd (args ++ List.replicate (fn.ntmps - args.length) (.tup [])) S fun x T S' =>
    match x with
    | .normal | .ret=>someK (resultsA P T S' fn.results.toList) fun vs=>K (packA vs) S'
    | _=>False
def normW (live:List (Nat × TypeId)) (r0:AV) (K:AV→List (Nat × TypeId)→Prop):Prop:=
 match r0 with
 | .sl sz es (.tok t)=>someK live[t]? fun p=>p.1 = es.length∧K (.sl sz es (.tok 0)) [p]
 | .tup (.sl sz es (.tok t) :: vs) =>
  if (vs.map AV.strip1).all AV.closed1 then someK live[t]? fun p=>p.1 = es.length∧K (.tup (.sl sz es (.tok 0) :: vs.map AV.strip1)) [p] else False
 | r0=>someK (normA live r0) fun x=>K x.1 x.2
theorem normW_imp {live:List (Nat × TypeId)} {r0:AV} {K:AV→List (Nat × TypeId)→Prop} (h:normW live r0 K):∃ r lv,normA live r0 = some (r,lv)∧K r lv:=by
 unfold normW at h
 split at h
 ·obtain ⟨p,h1,h2,h3⟩:=someK_imp h
  obtain ⟨n,e⟩:=p
  exact ⟨_,_,by simp only [normA,h1]; rw [if_pos h2],h3⟩
 ·split at h
  ·rename_i hc
   obtain ⟨p,h1,h2,h3⟩:=someK_imp h
   obtain ⟨n,e⟩:=p
   exact ⟨_,_,by simp only [normA,h1]; rw [if_pos hc,if_pos h2],h3⟩
  ·exact h.elim
 ·obtain ⟨x,h1,h2⟩:=someK_imp h
  exact ⟨x.1,x.2,h1,h2⟩
section
variable {P : Program} {G : Glob}
theorem fnW_ok {X:Shapes} {R:Callee} {C:CCallee} (hm:P.follows .mixedOrders = true) (hR:CalleeOk P G R) (hC:ICalleeOk P G (lowC C)) {A:Anns} {m:List Bool} {f:FuncId} {args:List AV} {S:St} {K:AV→St→Prop} (h:fnW P idMk G X R C A m f args S K) :
  goodFn P f∧∀ (N0:Nat→Prop) (w0:World) (I0:Nat→Nat→Prop) (E:Env) (w:World) (vs:Array Value),SR P G N0 w0 I0 S E w→vs.size = args.length→(∀ (i:Nat) (c:AV) (v:Value),args[i]? = some c→vs[i]? = some v→Rep E w c v) →
   Calls P f vs w fun e w'=>∃ v E' r S',e = .returned v∧K r S'∧SR P G N0 w0 I0 S' E' w'∧Env.Le E E' w w'∧Rep E' w' r v:=by
 unfold fnW at h
 split at h
 ·exact h.elim
 ·rename_i fn hf
  split at h
  ·exact h.elim
  ·rename_i c hb
   split at h
   ·exact h.elim
   ·rename_i hname
    refine ⟨⟨fn,hf,by rw [hb]; rfl,by simpa using hname⟩,fun N0 w0 I0 E w vs hS hn hv=>?_⟩
    have hT0:TR E w (args ++ List.replicate (fn.ntmps - args.length) (.tup [])) (vs ++ Array.replicate (fn.ntmps - vs.size) undef):=by
     refine ⟨by simp [hn],fun i c v hi hv'=>?_⟩
     by_cases hlt:i < args.length
     ·rw [List.getElem?_append_left hlt] at hi
      rw [Array.getElem?_append_left (by omega)] at hv'
      exact hv i c v hi hv'
     ·rw [List.getElem?_append_right (by omega),List.getElem?_replicate] at hi
      rw [Array.getElem?_append_right (by omega),Array.getElem?_replicate] at hv'
      split at hi
      ·split at hv'
       ·simp at hi hv'; subst hi; subst hv'
        exact rep_undef
       ·cases hv'
      ·cases hi
    refine calls_of_wp hf hb ((codeW_ok (N0:=N0) (w0:=w0) (I0:=I0) hm hR hC A m c).2.2.2 _ _ _ E _ w _ h hS hT0 fun x T S1 E' w' a' hk h1 h2 h3 h4=>?_)
    cases x with
    | exit id=>exact hk.elim
    | goto l=>exact hk.elim
    | normal =>
     obtain ⟨us,hus,hK⟩:=someK_imp hk
     obtain ⟨v,hv,hrep⟩:=results_run h1 h3 hus
     exact ⟨h4,v,hv,v,E',_,_,rfl,hK,h1,h2,hrep⟩
    | ret =>
     obtain ⟨us,hus,hK⟩:=someK_imp hk
     obtain ⟨v,hv,hrep⟩:=results_run h1 h3 hus
     exact ⟨h4,v,hv,v,E',_,_,rfl,hK,h1,h2,hrep⟩
abbrev Spec:=List AV→Option (AV × List (Nat × TypeId))
abbrev ISpec:=List AV→St→Option (Prop × AV × St)
def tbl:List (FuncId × Spec)→Callee
 | [],_,_=>none
 | (g,s) :: l,f,args=>if f = g then s args else tbl l f args
def itbl:List (FuncId × ISpec)→CCallee
 | [],_,_,_=>none
 | (g,s) :: l,f,args,S=>if f = g then s args S else itbl l f args S
def SpecOk (P:Program) (G:Glob) (f:FuncId) (s:Spec):Prop:=CalleeOk P G fun g args=>if g = f then s args else none
def ISpecOk (P:Program) (G:Glob) (f:FuncId) (s:ISpec):Prop:=ICalleeOk P G (lowC fun g args S=>if g = f then s args S else none)
theorem tbl_nil:CalleeOk P G (tbl []):=fun _ _ _ _ h=>by simp [tbl] at h
theorem tbl_cons {f:FuncId} {s:Spec} {l:List (FuncId × Spec)} (h:SpecOk P G f s) (hl:CalleeOk P G (tbl l)):CalleeOk P G (tbl ((f,s) :: l)):=by
 intro g args r lv hr
 simp only [tbl] at hr
 split at hr
 ·rename_i e
  exact h g args r lv (by simp only [e,if_true]; exact hr)
 ·exact hl g args r lv hr
theorem itbl_nil:ICalleeOk P G (lowC (itbl [])):=fun _ _ _ _ _ h=>by simp [itbl,lowC] at h
theorem itbl_cons {f:FuncId} {s:ISpec} {l:List (FuncId × ISpec)} (h:ISpecOk P G f s) (hl:ICalleeOk P G (lowC (itbl l))):ICalleeOk P G (lowC (itbl ((f,s) :: l))):=by
 intro g args S r S' hr
 simp only [lowC,itbl] at hr
 by_cases e:g = f
 ·exact h g args S r S' (by simp only [lowC,e,if_true] at hr ⊢; exact hr)
 ·exact hl g args S r S' (by simp only [lowC,if_neg e] at hr ⊢; exact hr)
structure RetIs (r:AV) (lv:List (Nat × TypeId)) (s:AV × List (Nat × TypeId)):Prop where
 eq:(r,lv) = s
structure RetOpen (ok:Bool) (r:AV) (S:St) (s:AV × St):Prop where
 ok:ok = true
 eq:(r,S) = s
def pureW (P:Program) (G:Glob) (X:Shapes) (R:Callee) (C:CCallee) (A:Anns) (m:List Bool) (f:FuncId) (args:List AV) (r:AV × List (Nat × TypeId)):Prop:=
 fnW P idMk G X R C A m f args ⟨[],[]⟩ fun r0 S=>giveW S r0 fun r1 S1=>normW S1.live r1 fun r' lv=>RetIs r' lv r
structure PureOk (P:Program) (G:Glob) (X:Shapes) (R:Callee) (C:CCallee) (A:Anns) (m:List Bool) (f:FuncId) (args:List AV) (r:AV × List (Nat × TypeId)):Prop where
 out:pureW P G X R C A m f args r
theorem spec_of {X:Shapes} {R:Callee} {C:CCallee} (hm:P.follows .mixedOrders = true) (hR:CalleeOk P G R) (hC:ICalleeOk P G (lowC C)) {m:List Bool} {f:FuncId} {s:Spec}
  (h:∀ args r,s args = some r→∃ A,PureOk P G X R C A m f args r):SpecOk P G f s:=by
 intro g args r lv hr
 simp only at hr
 split at hr
 ·rename_i e
  subst e
  obtain ⟨A,hA⟩:=h args _ hr
  obtain ⟨hg,hcall⟩:=fnW_ok hm hR hC hA.out
  refine fun E w vs hI hG hn hv hcl=>.inl ⟨hg,?_⟩
  have hS0:SR P G (· < w.heap.size) w E.I ⟨[],[]⟩ ⟨E.I,fun _=>none,fun _ _ _=>False⟩ w:=
   ⟨BelowQ.refl _ _,fun _ h=>h,hI,fun b o h _=>h,fun id b h=>(nomatch h),fun id id' b h=>(nomatch h),fun id cs h=>(nomatch h),fun g e hg=>⟨(hG g e hg).1,rep_elt_rebase (hG g e hg).2.1 _ _,(hG g e hg).2.2⟩,fun id h=>(nomatch h),fun t n v h=>False.elim h,fun t n v h=>False.elim h,fun t n e h=>(nomatch h)⟩
  refine (hcall _ _ _ _ w vs hS0 hn fun i c v hi hv'=>(hv i c v hi hv').rebase (hcl c (List.mem_of_getElem? hi)) _ _).mono fun e w' ⟨v,E',r0,S',he,hk,h1,h2,h3⟩=>?_
  obtain ⟨r1,S1,hgv,hk⟩:=giveW_imp hk
  obtain ⟨E1,k1,k2,k3⟩:=giveA_ok h1 hgv h3
  obtain ⟨r',lv',hnorm,⟨he'⟩⟩:=normW_imp hk
  injection he' with h5 h6
  subst h5; subst h6
  exact ⟨v,he,normA_res (E0:=E) k1 (fun b o hi=>(k2.I b o (h2.I b o hi).1).1) hnorm k3⟩
 ·cases hr
def all2 (p:AV→AV→Prop):List AV→List AV→Prop
 | [],[]=>True
 | a :: l,b :: m=>p a b∧all2 p l m
 | _,_=>False
def Lax0 (a b:AV):Prop:=
 match a,b with
 | .sl sz es _,.sl sz' es' o'=>o' = .no∧es = es'∧(sz = sz'∨es' = [])
 | a,b=>a = b
def Lax1 (a b:AV):Prop:=
 match a,b with
 | .agg xs,.agg ys=>all2 Lax0 xs ys
 | a,b=>Lax0 a b
def Lax2 (a b:AV):Prop:=
 match a,b with
 | .tup xs,.tup ys=>all2 Lax1 xs ys
 | a,b=>Lax1 a b
theorem all2_get {p:AV→AV→Prop}:∀ {l m:List AV},all2 p l m→l.length = m.length∧∀ (i:Nat) (b:AV),m[i]? = some b→∃ a,l[i]? = some a∧p a b
 | [],[],_=>⟨rfl,fun i b h=>by simp at h⟩
 | [],b :: m,h=>h.elim
 | a :: l,[],h=>h.elim
 | a :: l,b :: m,h=>by
  obtain ⟨h1,h2⟩:=h
  obtain ⟨h3,h4⟩:=all2_get h2
  refine ⟨by simp [h3],fun i c hc=>?_⟩
  match i,hc with
  | 0,hc=>simp at hc; subst hc; exact ⟨a,rfl,h1⟩
  | i + 1,hc=>exact h4 i c (by simpa using hc)
theorem Lax0.rep {E:Env} {w:World} {a b:AV} {v:Value} (h:Lax0 a b) (hr:Rep E w a v):Rep E w b v:=by
 unfold Lax0 at h
 split at h
 ·rename_i sz es o sz' es' o'
  obtain ⟨rfl,rfl,h3⟩:=h
  cases hr with | sl _ _ _ A cap u hcap hmax hA hsz hcl ho hr h1 =>
  by_cases he:es = []
  ·subst he
   exact .sl sz' [] .no A cap u hcap hmax (.inl rfl) (by simp) (by simp) trivial (by simp) h1
  ·obtain rfl:=h3.resolve_right he
   exact .sl sz es .no A cap u hcap hmax hA hsz hcl trivial hr h1
 ·subst h; exact hr
theorem Lax1.rep {E:Env} {w:World} {a b:AV} {v:Value} (h:Lax1 a b) (hr:Rep E w a v):Rep E w b v:=by
 unfold Lax1 at h
 split at h
 ·rename_i xs ys
  obtain ⟨h1,h2⟩:=all2_get h
  cases hr with | agg _ vs hn h1' hc =>
  exact .agg _ vs (by omega) h1' fun i c v hi hv=>by
   obtain ⟨a,ha,hl⟩:=h2 i c hi
   exact hl.rep (hc i a v ha hv)
 ·exact Lax0.rep h hr
theorem Lax2.rep {E:Env} {w:World} {a b:AV} {v:Value} (h:Lax2 a b) (hr:Rep E w a v):Rep E w b v:=by
 unfold Lax2 at h
 split at h
 ·rename_i xs ys
  obtain ⟨h1,h2⟩:=all2_get h
  cases hr with | tup _ vs hn hc =>
  exact .tup _ vs (by omega) fun i c v hi hv=>by
   obtain ⟨a,ha,hl⟩:=h2 i c hi
   exact hl.rep (hc i a v ha hv)
 ·exact Lax1.rep h hr
def AV.closed2:AV→Bool
 | .tup vs=>vs.all AV.closed1
 | v=>v.closed1
theorem rep_closed2 {E:Env} {w:World} {a:AV} {v:Value} (hr:Rep E w a v) (hc:a.closed2 = true) (B:Nat→Option Nat) (K:Nat→Nat→Value→Prop):Rep ⟨E.I,B,K⟩ w a v:=by
 by_cases ha:∃ vs,a = .tup vs
 ·obtain ⟨vs,rfl⟩:=ha
  simp only [AV.closed2,List.all_eq_true] at hc
  cases hr with | tup _ us hn h =>
  exact .tup _ us hn fun i c v hi hv=>(h i c v hi hv).rebase (hc c (List.mem_of_getElem? hi)) B K
 ·have:a.closed1 = true:=by
   cases a <;> simp_all [AV.closed2]
  exact hr.rebase this B K
structure RetLax (r:AV) (s:AV × List (Nat × TypeId)):Prop where
 lax:Lax2 r s.1
 closed:s.1.closed2 = true
 none:s.2 = []
def laxW (P:Program) (G:Glob) (X:Shapes) (R:Callee) (C:CCallee) (A:Anns) (m:List Bool) (f:FuncId) (args:List AV) (r:AV × List (Nat × TypeId)):Prop:=
 fnW P idMk G X R C A m f args ⟨[],[]⟩ fun r0 S=>giveW S r0 fun r1 _=>RetLax r1 r
structure LaxOk (P:Program) (G:Glob) (X:Shapes) (R:Callee) (C:CCallee) (A:Anns) (m:List Bool) (f:FuncId) (args:List AV) (r:AV × List (Nat × TypeId)):Prop where
 out:laxW P G X R C A m f args r
theorem lax_of {X:Shapes} {R:Callee} {C:CCallee} (hm:P.follows .mixedOrders = true) (hR:CalleeOk P G R) (hC:ICalleeOk P G (lowC C)) {m:List Bool} {f:FuncId} {s:Spec}
  (h:∀ args r,s args = some r→∃ A,LaxOk P G X R C A m f args r):SpecOk P G f s:=by
 intro g args r lv hr
 simp only at hr
 split at hr
 ·rename_i e
  subst e
  obtain ⟨A,hA⟩:=h args _ hr
  obtain ⟨hg,hcall⟩:=fnW_ok hm hR hC hA.out
  refine fun E w vs hI hG hn hv hcl=>.inl ⟨hg,?_⟩
  have hS0:SR P G (· < w.heap.size) w E.I ⟨[],[]⟩ ⟨E.I,fun _=>none,fun _ _ _=>False⟩ w:=
   ⟨BelowQ.refl _ _,fun _ h=>h,hI,fun b o h _=>h,fun id b h=>(nomatch h),fun id id' b h=>(nomatch h),fun id cs h=>(nomatch h),fun g e hg=>⟨(hG g e hg).1,rep_elt_rebase (hG g e hg).2.1 _ _,(hG g e hg).2.2⟩,fun id h=>(nomatch h),fun t n v h=>False.elim h,fun t n v h=>False.elim h,fun t n e h=>(nomatch h)⟩
  refine (hcall _ _ _ _ w vs hS0 hn fun i c v hi hv'=>(hv i c v hi hv').rebase (hcl c (List.mem_of_getElem? hi)) _ _).mono fun e w' ⟨v,E',r0,S',he,hk,h1,h2,h3⟩=>?_
  obtain ⟨r1,S1,hgv,hk⟩:=giveW_imp hk
  obtain ⟨E1,m1,m2,m3⟩:=giveA_ok h1 hgv h3
  obtain ⟨k1,k2,k3⟩:=hk
  simp only at k1 k2 k3
  subst k3
  refine ⟨v,he,E1.I,fun b o hi=>(m2.I b o (h2.I b o hi).1).1,fun b o hi=>?_,m1.below.below,.inl ⟨rfl,fun B K=>rep_closed2 (k1.rep m3) k2 B K⟩⟩
  rcases Nat.lt_or_ge b w.heap.size with hlt | hge
  ·exact .inl (m1.Iold b o hi hlt)
  ·exact .inr ⟨hge,m1.Ilt b o hi⟩
 ·cases hr
def openW (P:Program) (G:Glob) (X:Shapes) (R:Callee) (C:CCallee) (A:Anns) (m:List Bool) (f:FuncId) (args:List AV) (S:St) (r:AV × St):Prop:=
 fnW P idMk G X R C A m f args S fun r0 S'=>RetOpen (r0.p2 S.boxes.length && boxesOk S.boxes.length (S'.boxes.take S.boxes.length)) r0 { S' with boxes:=S'.boxes.take S.boxes.length } r
structure OpenOk (P:Program) (G:Glob) (X:Shapes) (R:Callee) (C:CCallee) (A:Anns) (m:List Bool) (f:FuncId) (args:List AV) (S:St) (r:AV × St):Prop where
 out:openW P G X R C A m f args S r
theorem ispec_of {X:Shapes} {R:Callee} {C:CCallee} (hm:P.follows .mixedOrders = true) (hR:CalleeOk P G R) (hC:ICalleeOk P G (lowC C)) {m:List Bool} {f:FuncId} {s:ISpec}
  (h:∀ args S p r,s args S = some (p,r)→p→∃ A,OpenOk P G X R C A m f args S r):ISpecOk P G f s:=by
 intro g args S r S' hr
 simp only [lowC] at hr
 by_cases e:g = f
 ·subst e
  simp only [if_true] at hr
  split at hr
  case h_2=>cases hr
  case h_1 x hx =>
  split at hr
  case isFalse=>cases hr
  case isTrue hp =>
  simp only [Option.some.injEq] at hr
  obtain ⟨A,hA⟩:=h args S x.1 x.2 hx hp
  rw [hr] at hA
  obtain ⟨hg,hcall⟩:=fnW_ok hm hR hC hA.out
  refine ⟨hg,fun N0 w0 I0 E w vs hS hn hv=>(hcall N0 w0 I0 E w vs hS hn hv).mono fun e w' ⟨v,E',r0,S1,he,⟨hok,hk⟩,h1,h2,h3⟩=>?_⟩
  injection hk with h5 h6
  subst h5; subst h6
  simp only [Bool.and_eq_true] at hok
  refine ⟨v,⟨E'.I,cutB S.boxes.length E'.B,E'.K⟩,he,h1.cut hok.2,⟨h2.I,fun b x hb=>?_,h2.K,h2.Z⟩,h3.cut (pb2 hok.1)⟩
  have:=(hS.Blt b x hb).1
  simp [cutB,this,h2.B b x hb]
 ·simp only [if_neg e] at hr
  cases hr
end
end Go.Abs
namespace Go.Abs
theorem callIs_iff {x:Option (AV × List (Nat × TypeId))} {r:AV} {lv:List (Nat × TypeId)}:CallIs x r lv ↔ x = some (r,lv):=⟨fun h=>h.eq,fun h=>⟨h⟩⟩
theorem valsAre_iff {a b:List AV}:ValsAre a b ↔ a = b:=⟨fun h=>h.eq,fun h=>⟨h⟩⟩
theorem stIs_iff {a b:St}:StIs a b ↔ a = b:=⟨fun h=>h.eq,fun h=>⟨h⟩⟩
theorem retIs_iff {r:AV} {lv:List (Nat × TypeId)} {s:AV × List (Nat × TypeId)}:RetIs r lv s ↔ (r,lv) = s:=⟨fun h=>h.eq,fun h=>⟨h⟩⟩
theorem take_one {P:Program} {t:TypeId} (ha:aggA P t = some false) (hs:(sizeA P t).isSome = true) {es:List AV} {i:Nat} {e:AV} (he:es[i]? = some e) (h1:e.cells = [e]):takeAt P t es i 0 = some e:=by
 obtain ⟨s,hs⟩:=Option.isSome_iff_exists.1 hs
 unfold takeAt
 simp only [he,ha,hs,takeA,h1,List.getElem?_cons_zero]
theorem wrap64_in {n:Int} (h0:-9223372036854775808≤n) (h1:n < 9223372036854775808):IntKind.i64.wrap n = n:=by
 simp only [IntKind.wrap,IntKind.bits,IntKind.signed]
 simp
 omega
theorem tw_next {p:UInt8→Bool}:∀ {l:List UInt8} {k:Nat},k≤(l.takeWhile p).length→k < l.length→p (l.getD k 0) = true→k + 1≤(l.takeWhile p).length
 | [],k,_,h,_=>by simp at h
 | c :: l,0,_,_,hp=>by simp at hp; simp [hp]
 | c :: l,k + 1,hk,h,hp=>by
  rw [List.takeWhile_cons] at hk ⊢
  split at hk
  ·rename_i hc
   rw [if_pos hc]
   simp only [List.length_cons] at hk h ⊢
   have:=tw_next (p:=p) (l:=l) (k:=k) (by omega) (by omega) (by simpa using hp)
   omega
  ·simp at hk
theorem tw_stop {p:UInt8→Bool}:∀ {l:List UInt8} {k:Nat},k≤(l.takeWhile p).length→(k < l.length→p (l.getD k 0) = false)→k = (l.takeWhile p).length
 | [],k,h,_=>by simp at h; simp [h]
 | c :: l,0,_,hp=>by have:=hp (by simp); simp at this; simp [this]
 | c :: l,k + 1,hk,hp=>by
  rw [List.takeWhile_cons] at hk ⊢
  split at hk
  ·rename_i hc
   rw [if_pos hc]
   simp only [List.length_cons] at hk hp ⊢
   have:=tw_stop (p:=p) (l:=l) (k:=k) (by omega) (fun h=>by simpa using hp (by omega))
   omega
  ·simp at hk
end Go.Abs
namespace Go.Abs
open Go.RowKit
section
variable {P : Program} {G : Glob} {E : Env} {w w' : World}
theorem res_below (hb:Below w.heap.size w w') {r:AV} {v:Value} (h:∀ B K,Rep ⟨E.I,B,K⟩ w' r v):Res P E w w' r [] v:=
 ⟨E.I,fun _ _ h=>h,fun _ _ h=>.inl h,hb,.inl ⟨rfl,h⟩⟩
theorem res_same {r:AV} {v:Value} (h:∀ B K,Rep ⟨E.I,B,K⟩ w r v):Res P E w w r [] v:=res_below (Below.refl _ _) h
theorem vs_one {vs:Array Value} (h:vs.size = 1):∃ a,vs = #[a]:=by
 obtain ⟨l⟩:=vs
 match l,h with
 | [a],_=>exact ⟨a,rfl⟩
theorem vs_two {vs:Array Value} (h:vs.size = 2):∃ a b,vs = #[a,b]:=by
 obtain ⟨l⟩:=vs
 match l,h with
 | [a,b],_=>exact ⟨a,b,rfl⟩
theorem rep_str {l:List UInt8} {v:Value} (h:Rep E w (.str l) v):∃ s,v = .string s∧s.data.toList = l:=by
 cases h with | str _ s hs=>exact ⟨s,rfl,hs⟩
def sContains:Spec:=fun args=>match args with
 | [.str l,.str m]=>if l.length < 4294967281 then some (.bool (Lib.contains l m),[]) else none
 | _=>none
theorem glob_int {g:Nat} {m:Int} (hG:GlobOk G E w) (h:G g = some (.int .i64 m)):w.cell? ⟨g,0,none⟩ = some (.int .i64 m):=by
 have:=(hG g _ h).2.1
 generalize hv:Value.pointer (some ⟨g,0,none⟩) = v at this
 cases this with | elt _ _ _ _ b off u hcl hA hr h1 =>
 injection hv with hv
 injection hv with hv
 injection hv with h2 h3
 subst h2
 obtain ⟨_,h4⟩:=hA 0 _ 0 _ rfl rfl
 have h5:=rep_int (hr 0 _ 0 _ rfl rfl)
 rw [← h5,← h4]
 congr 2
theorem o_contains {f:FuncId} (hg:goodFn P f) {m:Int} {g0:Nat} (hm:G g0 = some (.int .i64 m))
    (hc:∀ (s sub:ByteArray) (m:Int) (w:World),s.size < 4294967281→w.cell? ⟨g0,0,none⟩ = some (.int .i64 m) →
      Calls P f #[.string s,.string sub] w fun e w'=>e = .returned (.bool (Lib.contains s.data.toList sub.data.toList))∧w' = w):SpecOk P G f sContains:=by
  intro g args r lv h E w vs hI hG hn' hv hcl
  simp only at h
  split at h
  · rename_i e
    subst e
    unfold sContains at h
    split at h
    · rename_i l k
      split at h
      · rename_i hl
        simp only [Option.some.injEq,Prod.mk.injEq] at h
        obtain ⟨rfl,rfl⟩:=h
        obtain ⟨a,b,rfl⟩:=vs_two hn'
        obtain ⟨s,rfl,hs⟩:=rep_str (hv 0 _ _ rfl rfl)
        obtain ⟨t,rfl,ht⟩:=rep_str (hv 1 _ _ rfl rfl)
        refine .inl ⟨hg, (hc s t m w (by have h9 : s.size = s.data.toList.length := by simp
                                         rw [h9,hs]; exact hl) (glob_int hG hm)).mono fun e w' ⟨he,hw⟩=>?_⟩
        subst hw
        refine ⟨_,he,res_same fun B K=>?_⟩
        rw [hs,ht]
        exact .bool _
      · cases h
    · cases h
  · cases h
theorem law_calls {f:FuncId} {s:Spec} (hs:SpecOk P G f s) (hg:goodFn P f) {args:List AV} (h:s args = some (.bool true,[])) {vs:Array Value} (hI:∀ b o,E.I b o→b < w.heap.size) (hG:GlobOk G E w) (hn:vs.size = args.length)
  (hv:∀ (i:Nat) (c:AV) (v:Value),args[i]? = some c→vs[i]? = some v→Rep E w c v) (hcl:∀ c ∈ args,c.closed1 = true):Calls P f vs w fun e w'=>e = .returned (.bool true)∧Below w.heap.size w w':=by
 have hc:=hs f args (.bool true) [] (by simp only [if_true]; exact h) E w vs hI hG hn hv hcl
 rcases hc with ⟨_,hc⟩ | ⟨v,w',hrun,_⟩
 ·refine hc.mono fun e w' ⟨v,he,I',_,_,hb,hr⟩=>?_
  rcases hr with ⟨_,hr⟩ | ⟨n,e',hv',sz,xs,hlv,_⟩
  ·have:=rep_bool (hr (fun _=>none) (fun _ _ _=>False))
   subst this
   exact ⟨he,hb⟩
  ·cases hlv
 ·rw [run_callFunc hg] at hrun
  cases hrun
end
end Go.Abs
namespace Go.Abs
open Go.ChangeShapes Go.WideShapes Go.ChangeAt Go.RowKit Go.Deep Go.ChangeMaps
section
variable {H : Type} {enc : TypeId × Value → H} {P : Program}
theorem trodAll_stays (hl:laidOutB P = true) {W W':World} (hb:Below W.heap.size W W') {sp:Nat→Bool}:∀ (ts:List TypeId) (vs:List Value) (ds:List (DataW H)) (ps:List MemPlace),
  (∀ t ∈ ts,P.readableRec t = true∧t < P.types.size)→DataW.TrodAll enc P W 0 (fun _=>true) true ts vs ds ps→(∀ p ∈ ps,p.block < W.heap.size)→(∀ p ∈ ps,sp p.block = true)→DataW.TrodAll enc P W' 0 sp true ts vs ds ps
 | [],vs,ds,ps,_,h,_,_=>by
  obtain ⟨rfl,rfl,rfl⟩:=trodAll_nil h
  exact trodAll_mk0
 | t :: ts,vs,ds,ps,ht,h,hlt,hsp=>by
  obtain ⟨v0,vs0,d0,ds0,p0,q0,rfl,rfl,rfl,h0,r0⟩:=trodAll_cons h
  refine trodAll_cons_mk (WideElems.Trod_stays hl (ht t (by simp)).1 (ht t (by simp)).2 h0 (fun x hx=>hb.same (hlt x (by simp [hx]))) (fun x hx=>hsp x (by simp [hx]))) ?_
  exact trodAll_stays hl hb ts vs0 ds0 q0 (fun t' h'=>ht t' (by simp [h'])) r0 (fun x hx=>hlt x (by simp [hx])) (fun x hx=>hsp x (by simp [hx]))
theorem law_post {f:Func} {s:ChangeSpec} {W W':World} {args:Array Value} {ds:List (DataW H)} {before:List MemPlace} {tb:TypeId}
  (hW:DataW.Whole enc P f.params.toList s.vars false W args.toList ds [] before) (hv:s.vars = []) (hfn:s.fn H (ds ++ []) = { results:=[.lit (.bool true)],args:=ds }) (hf:f.resultTypes = #[tb]) (htb:P.underlying tb = some .bool)
  (hl:laidOutB P = true) (hr:∀ t ∈ f.params.toList,P.readableRec t = true∧t < P.types.size) (hb:Below W.heap.size W W') :
  s.post enc P f false true false false W args (.bool true) W':=by
 have hlt:∀ p ∈ before,p.block < W.heap.size:=fun p hp=>hW.lt p hp
 have hW2:=hW
 obtain ⟨p,q,hA,hV,hpq,_,_⟩:=hW2
 rw [hv] at hV
 obtain ⟨_,rfl⟩:=trodVars_none hV
 rw [List.append_nil] at hpq
 subst hpq
 refine ⟨ds,[],before,[],before,[],hW,?_,?_,?_,hb.frame _,fun h=>by cases h⟩
 ·rw [hfn,hf]
  exact trodAll_cons_mk (shut_bool htb _) trodAll_mk0
 ·rw [hfn]
  exact trodAll_stays hl hb _ _ _ _ hr hA hlt (fun p hp=>by simpa using hlt p hp)
 ·rw [hv,hfn]
  rfl
end
theorem addr_plain {w:World} {a:Addr} {v:Value} (h:w.cell? a = some v):a = ⟨a.block,a.off,none⟩:=by
 obtain ⟨b,o,s⟩:=a
 cases s with
 | none=>rfl
 | some s =>
  unfold World.cell? at h
  split at h <;> simp at h
theorem addp (b o k:Nat):(⟨b,o,none⟩:Addr).add k = ⟨b,o + k,none⟩:=by
 unfold Addr.add; split <;> simp_all
theorem cell_lt {W:World} {a:Addr} {v:Value} (h:W.cell? a = some v):a.block < W.heap.size:=by
 rcases Nat.lt_or_ge a.block W.heap.size with h' | h'
 ·exact h'
 ·simp [World.cell?,Array.getElem?_eq_none h'] at h
def oldE (W:World):Env:=⟨fun b _=>b < W.heap.size,fun _=>none,fun _ _ _=>False⟩
section
variable {H : Type} {enc : TypeId × Value → H} {P : Program} {W : World}
theorem globA {G:Glob} (h:∀ g e,G g = some e→e.closed1 = true∧∀ (j:Nat) (c:AV),e.cells[j]? = some c→∃ v,W.cell? ⟨g,j,none⟩ = some v∧Rep (oldE W) W c v∧v.oneCell' = true) (hb:∀ g e,G g = some e→g < W.heap.size∧W.cell? ⟨g,e.cells.length,none⟩ = none):GlobOk G (oldE W) W:=by
 intro g e hg
 obtain ⟨h1,h2⟩:=h g e hg
 refine ⟨h1,?_,hb g e hg⟩
 let u:Nat→Nat→Value:=fun _ j=>match W.cell? ⟨g,j,none⟩ with
  | some v=>if j < e.cells.length then v else .bool false
  | none=>.bool false
 have hu:∀ i j c,e.cells[j]? = some c→W.cell? ⟨g,j,none⟩ = some (u i j)∧Rep (oldE W) W c (u i j):=fun i j c hc=>by
  obtain ⟨v,hv,hr,_⟩:=h2 j c hc
  have hlt:=(List.getElem?_eq_some_iff.1 hc).1
  simp only [u,hv,hlt,if_true]
  exact ⟨trivial,hr⟩
 have:=Rep.elt (E:=oldE W) (w:=W) e.cells.length [e] 0 0 g 0 u (by intro x hx; simp at hx; subst hx; exact h1) (fun i e' j c hi hj=>?_) (fun i e' j c hi hj=>?_) (fun i j=>?_)
 ·simpa using this
 ·match i,hi with
  | 0,hi =>
   simp at hi; subst hi
   have h3:=hu 0 j c hj
   refine ⟨cell_lt h3.1,?_⟩
   simpa using h3.1
  | i + 1,hi=>simp at hi
 ·match i,hi with
  | 0,hi =>
   simp at hi; subst hi
   exact (hu 0 j c hj).2
  | i + 1,hi=>simp at hi
 ·show (match W.cell? ⟨g,j,none⟩ with | some v=>if j < e.cells.length then v else .bool false | none=>.bool false:Value).oneCell' = true
  split
  ·rename_i v hv
   split
   ·rename_i hlt
    obtain ⟨v',hv',_,h3⟩:=h2 j _ (List.getElem?_eq_getElem hlt)
    rw [hv] at hv'
    injection hv' with hv'
    rw [hv']; exact h3
   ·rfl
  ·rfl
end
section
variable {H : Type} {enc : TypeId × Value → H} {P : Program} {W : World}
theorem glob_size (hsh:W.ShapedOpen P) {g n:Nat} (hg:g < P.globals.size) (hz:(((begin P (fun _ _=>0) default).world.heap[g]?).bind Obj.row?).map (fun x=>x.1.size) = some n):g < W.heap.size∧W.cell? ⟨g,n,none⟩ = none:=by
 obtain ⟨h1,_⟩:=hsh
 cases hx:((begin P (fun _ _=>0) default).world.heap[g]?).bind Obj.row? with
 | none=>rw [hx] at hz; cases hz
 | some x =>
  obtain ⟨zero,t⟩:=x
  rw [hx] at hz
  simp only [Option.map_some,Option.some.injEq] at hz
  obtain ⟨cs,hcs,hsz,_⟩:=h1 g zero t hg hx
  refine ⟨(Array.getElem?_eq_some_iff.1 hcs).1,?_⟩
  unfold World.cell?
  simp only [hcs]
  have:cs[n]? = none:=Array.getElem?_eq_none (by omega)
  simpa using this
theorem int_rng {n:Int} (h:(Lit.int .i64 n).wf = true):-9223372036854775808≤n∧n < 9223372036854775808:=by
 simp [Lit.wf,IntKind.min,IntKind.max,IntKind.signed,IntKind.bits] at h
 omega
end
section
variable {H : Type} {enc : TypeId × Value → H} {P : Program} {W : World}
end
end Go.Abs
