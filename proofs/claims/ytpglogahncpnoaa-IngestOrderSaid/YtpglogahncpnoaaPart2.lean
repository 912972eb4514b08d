/- Own texts, part 2. -/
import Derived.Test.YtpglogahncpnoaaPart1
import Derived.Lib.OthersKept
import Derived.Orders
import Derived.Tactics
import Derived.LoopN
import Derived.Scope

namespace Go.Abs
open Go.RowKit
def Res (P:Program) (E:Env) (w w':World) (r:AV) (lv:List (Nat × TypeId)) (v:Value):Prop:=
  ∃ I':Nat→Nat→Prop,(∀ b o,E.I b o→I' b o)∧(∀ b o,I' b o→E.I b o∨(w.heap.size≤b∧b < w'.heap.size))∧Below w.heap.size w w' ∧
    ((lv = []∧∀ B K,Rep ⟨I',B,K⟩ w' r v) ∨
     (∃ n e hv sz xs,lv = [(n,e)]∧sizeA P e = some sz∧w'.ownsRow w.heap.size e sz hv n xs∧(∀ g,hv.ownBlock = some g→∀ o,I' g o→o < n * sz)∧∀ B K L,K L n hv→Rep ⟨I',B,K⟩ w' (adopt L r) v))
def goodFn (P:Program) (f:FuncId):Prop:=∃ fn,P.funcs[f]? = some fn∧fn.body.isSome = true∧(fn.name == "runtime.NumGoroutine") = false
def CallsX (P:Program) (f:FuncId) (vs:Array Value) (w:World) (Q:Ending→World→Prop):Prop:=
 (goodFn P f∧Calls P f vs w Q)∨∃ v w',(callFunc f vs).run P w = .ok (.value v) w'∧Q (.returned v) w'
theorem CallsX.mono {P:Program} {f:FuncId} {vs:Array Value} {w:World} {Q Q':Ending→World→Prop} (h:CallsX P f vs w Q) (hq:∀ e w',Q e w'→Q' e w'):CallsX P f vs w Q':=by
 rcases h with ⟨hg,h⟩ | ⟨v,w',h1,h2⟩
 ·exact .inl ⟨hg,h.mono hq⟩
 ·exact .inr ⟨v,w',h1,hq _ _ h2⟩
def CalleeOk (P:Program) (G:Glob) (R:Callee):Prop:=
 ∀ (f:FuncId) (args:List AV) (r:AV) (lv:List (Nat × TypeId)),R f args = some (r,lv) →
  ∀ (E:Env) (w:World) (vs:Array Value),(∀ b o,E.I b o→b < w.heap.size)→GlobOk G E w→vs.size = args.length→(∀ (i:Nat) (c:AV) (v:Value),args[i]? = some c→vs[i]? = some v→Rep E w c v)→(∀ c ∈ args,c.closed1 = true) →
   CallsX P f vs w fun e w'=>∃ v,e = .returned v∧Res P E w w' r lv v
def ICalleeOk (P:Program) (G:Glob) (C:ICallee):Prop:=
 ∀ (f:FuncId) (args:List AV) (S:St) (r:AV) (S':St),C f args S = some (r,S')→goodFn P f ∧
  ∀ (N0:Nat→Prop) (w0:World) (I0:Nat→Nat→Prop) (E:Env) (w:World) (vs:Array Value),SR P G N0 w0 I0 S E w→vs.size = args.length→(∀ (i:Nat) (c:AV) (v:Value),args[i]? = some c→vs[i]? = some v→Rep E w c v) →
   Calls P f vs w fun e w'=>∃ v E',e = .returned v∧SR P G N0 w0 I0 S' E' w'∧Env.Le E E' w w'∧Rep E' w' r v
theorem noC_ok {P:Program} {G:Glob}:ICalleeOk P G noC:=fun f args S r S' h=>by simp [noC] at h
section
variable {P : Program} {E : Env} {w w' : World} {G : Glob} {N0 : Nat → Prop} {w0 : World} {I0 : Nat → Nat → Prop} {S : St}
theorem run_v {s:Sem Value} {x:Value} (h:s.run P w = .ok x w'):(do pure (.value (← s)):Sem Next).run P w = .ok (.value x) w':=by
 simp [h]
theorem run_u {s:Sem Unit} (h:s.run P w = .ok () w'):(do s; pure .skip:Sem Next).run P w = .ok .skip w':=by
 simp [h]
theorem SR.res (hS:SR P G N0 w0 I0 S E w) {r:AV} {lv:List (Nat × TypeId)} {v:Value} (h:Res P E w w' r lv v) :
  ∃ E',SR P G N0 w0 I0 { S with live:=S.live ++ lv } E' w'∧Env.Le E E' w w'∧Rep E' w' (if lv = [] then r else adopt S.live.length r) v:=by
 obtain ⟨I',h1,h2,hb,h⟩:=h
 obtain ⟨hS',hL⟩:=hS.ext hb h1 h2
 rcases h with ⟨rfl,hr⟩ | ⟨n,e,hv,sz,xs,rfl,hsz,hown,hgI0,hr⟩
 ·exact ⟨_,by rw [List.append_nil]; exact hS',hL,by simpa using hr _ _⟩
 ·cases hg:hv.ownBlock with
  | none =>
   have hnil:hv = .slice none 0 0∧n = 0:=by
    rcases hown.2 with h' | ⟨g',cap,cur,hv',_⟩
    ·exact h'
    ·subst hv'; simp [Value.ownBlock] at hg
   obtain ⟨rfl,rfl⟩:=hnil
   obtain ⟨hS2,hL2⟩:=hS'.mint (e:=e) hsz
   refine ⟨_,hS2,hL.trans hL2,?_⟩
   simp only [List.cons_ne_nil,if_false]
   exact hr _ _ S.live.length (.inr ⟨rfl,rfl,rfl⟩)
  | some g =>
  have hgI:=hgI0 g hg
  obtain ⟨hg0,hglt⟩:=hown.lt g hg
  obtain ⟨hS2,hL2⟩:=hS'.tok (w':=w') S.live.length g n sz e hv xs (S.live ++ [(n,e)]) rfl rfl rfl (Nat.le_refl _) (fun _ _ _=>rfl) (fun _ _=>rfl) (fun hq=>by have:=hS.n0 g hq; omega) hglt
   (fun id hid=>by have:=(hS.Blt id g hid).2.2.1; omega) (fun t' n'' v'' hk hb'=>by have:=hS.Kb hk hb'; omega) hgI (fun n v hk=>by
    obtain ⟨m,e',hm,_⟩:=hS.Klt _ _ _ hk
    rw [List.getElem?_eq_none (Nat.le_refl _)] at hm; cases hm) (by simp) (fun t' ht'=>by
    by_cases hlt:t' < S.live.length
    ·rw [List.getElem?_append_left hlt]
    ·rw [List.getElem?_eq_none (by simp; omega),List.getElem?_eq_none (by omega)]) hsz (by
     exact ownsQ_of hown hS.n0) hg
  refine ⟨_,hS2,hL.trans hL2,?_⟩
  have:=hr E.B (fun t n' v'=>E.K t n' v'∨(t = S.live.length∧n' = n∧v' = hv)) S.live.length (.inr ⟨rfl,rfl,rfl⟩)
  simp only [List.cons_ne_nil,if_false]
  refine Rep.le ?_ this
  exact ⟨fun b o hi=>⟨Or.inl hi,rfl⟩,fun _ _ h=>h,fun _ _ _ h=>h,fun _ _ _=>rfl⟩
theorem maxA_run {tys:Array TypeId} {ty:TypeId} {x y r:AV} {vx vy:Value} (h:maxA x y = some r) (hx:Rep E w x vx) (hy:Rep E w y vy):∃ v,(Builtin.max_ tys ty #[vx,vy]).run P w = .ok v w∧Rep E w r v:=by
 unfold maxA at h
 split at h
 ·rename_i k a k' b
  cases hx; cases hy
  split at h
  ·rename_i hk
   subst hk
   simp only [Option.some.injEq] at h
   subst h
   exact ⟨.int k (max a b),by simp only [Builtin.max_,Builtin.max2,List.foldlM_cons,List.foldlM_nil,bind_pure,Sem.run_pure]; congr 2; simp only [gt_iff_lt]; split <;> omega,.int _ _⟩
  ·cases h
 ·cases h
theorem minA_run {tys:Array TypeId} {ty:TypeId} {x y r:AV} {vx vy:Value} (h:minA x y = some r) (hx:Rep E w x vx) (hy:Rep E w y vy):∃ v,(Builtin.min_ tys ty #[vx,vy]).run P w = .ok v w∧Rep E w r v:=by
 unfold minA at h
 split at h
 ·rename_i k a k' b
  cases hx; cases hy
  split at h
  ·rename_i hk
   subst hk
   simp only [Option.some.injEq] at h
   subst h
   exact ⟨.int k (min a b),by simp only [Builtin.min_,Builtin.min2,List.foldlM_cons,List.foldlM_nil,bind_pure,Sem.run_pure]; congr 2; split <;> omega,.int _ _⟩
  ·cases h
 ·cases h
theorem callA_wp {R:Callee} (hR:CalleeOk P G R) (hS:SR P G N0 w0 I0 S E w) {f:FuncId} {args:List AV} {vs:Array Value} {r:AV} {S':St} (hn:vs.size = args.length)
  (hv:∀ (i:Nat) (c:AV) (v:Value),args[i]? = some c→vs[i]? = some v→Rep E w c v) (h:callA R S f args = some (r,S')) :
  CallsX P f vs w fun e w'=>∃ v E',e = .returned v∧SR P G N0 w0 I0 S' E' w'∧Env.Le E E' w w'∧Rep E' w' r v:=by
 unfold callA at h
 split at h
 ·rename_i hc
  rw [List.all_eq_true] at hc
  have key:∀ r0 lv,R f (args.map AV.strip1) = some (r0,lv)→CallsX P f vs w fun e w'=>∃ v E',e = .returned v∧SR P G N0 w0 I0 { S with live:=S.live ++ lv } E' w'∧Env.Le E E' w w'∧Rep E' w' (if lv = [] then r0 else adopt S.live.length r0) v:=by
   intro r0 lv hr
   have hcall:=hR f _ r0 lv hr
   refine (hcall E w vs hS.Ilt hS.glob (by simpa using hn) (fun i c v hi hv'=>?_) hc).mono fun e w' ⟨v,he,hres⟩=>?_
   ·rw [List.getElem?_map] at hi
    cases ha:args[i]? with
    | none=>simp [ha] at hi
    | some c' =>
     simp [ha] at hi; subst hi
     exact (hv i c' v ha hv').strip1
   ·obtain ⟨E',h1,h2,h3⟩:=hS.res hres
    exact ⟨v,E',he,h1,h2,h3⟩
  split at h
  ·rename_i r0 hr
   simp at h
   obtain ⟨rfl,rfl⟩:=h
   have:=key r0 [] hr
   simpa only [List.append_nil,if_true] using this
  ·rename_i r0 p lv hr
   simp at h
   obtain ⟨rfl,rfl⟩:=h
   have:=key r0 (p :: lv) hr
   simpa only [List.cons_ne_nil,if_false] using this
  ·cases h
 ·cases h
theorem callG_wp {R:Callee} {C:ICallee} (hR:CalleeOk P G R) (hC:ICalleeOk P G C) (hS:SR P G N0 w0 I0 S E w) {f:FuncId} {args:List AV} {vs:Array Value} {r:AV} {S':St} (hn:vs.size = args.length)
  (hv:∀ (i:Nat) (c:AV) (v:Value),args[i]? = some c→vs[i]? = some v→Rep E w c v) (h:callG R C S f args = some (r,S')) :
  CallsX P f vs w fun e w'=>∃ v E',e = .returned v∧SR P G N0 w0 I0 S' E' w'∧Env.Le E E' w w'∧Rep E' w' r v:=by
 unfold callG at h
 split at h
 ·rename_i q hq
  injection h with h; subst h
  obtain ⟨h1,h2⟩:=hC f args S r S' hq
  exact .inl ⟨h1,h2 N0 w0 I0 E w vs hS hn hv⟩
 ·split at h
  ·exact callA_wp hR hS hn hv h
  ·cases h
theorem run_callFunc {f:FuncId} {vs:Array Value} (h:goodFn P f):(callFunc f vs).run P w = .ok (.enter f vs) w:=by
 obtain ⟨fn,hf,hb,hn⟩:=h
 obtain ⟨c,hc⟩:=Option.isSome_iff_exists.1 hb
 have hn':¬ fn.name = "runtime.NumGoroutine" := by simpa using hn
 simp [callFunc,hf,hc,hn']
theorem rep_bool {b:Bool} {v:Value} (h:Rep E w (.bool b) v):v = .bool b:=by cases h; rfl
theorem rep_tup {cs:List AV} {v:Value} (h:Rep E w (.tup cs) v):∃ vs:Array Value,v = .tuple vs∧vs.size = cs.length∧∀ (i:Nat) (c:AV) (v:Value),cs[i]? = some c→vs[i]? = some v→Rep E w c v:=by
 cases h with | tup _ vs hn hc=>exact ⟨vs,rfl,hn,hc⟩
theorem rep_ptr {b o:Nat} {v:Value} (h:Rep E w (.ptr b o) v):∃ blk,v = .pointer (some ⟨blk,o,none⟩)∧E.B b = some blk:=by
 cases h with | ptr _ _ blk hB=>exact ⟨blk,rfl,hB⟩
theorem rep_elt {sz i j:Nat} {es:List AV} {v:Value} (h:Rep E w (.elt sz es i j) v):∃ a,v = .pointer (some a):=by
 cases h; exact ⟨_,rfl⟩
theorem rep_fn {f:FuncId} {cap:List AV} {v:Value} (h:Rep E w (.fn f cap) v):∃ vs:Array Value,v = .func (.func f) #[] vs∧vs.size = cap.length∧∀ (i:Nat) (c:AV) (v:Value),cap[i]? = some c→vs[i]? = some v→Rep E w c v:=by
 cases h with | fn _ _ vs hn hc=>exact ⟨vs,rfl,hn,hc⟩
theorem spliceV_at {arr ys:Array Value} {o:Nat} (h:o + ys.size≤arr.size) (k:Nat):(spliceV arr o ys)[k]? = if k < o then arr[k]? else if k < o + ys.size then ys[k - o]? else arr[k]?:=by
 have l1:(arr.toList.take o).length = o:=by rw [List.length_take,Array.length_toList]; omega
 simp only [spliceV,List.append_assoc,List.getElem?_toArray]
 by_cases h1:k < o
 ·rw [if_pos h1,List.getElem?_append_left (by omega),List.getElem?_take,if_pos h1,Array.getElem?_toList]
 ·rw [if_neg h1,List.getElem?_append_right (by omega),l1]
  by_cases h2:k < o + ys.size
  ·rw [if_pos h2,List.getElem?_append_left (by rw [Array.length_toList]; omega),Array.getElem?_toList]
  ·rw [if_neg h2,List.getElem?_append_right (by rw [Array.length_toList]; omega),List.getElem?_drop,Array.getElem?_toList,Array.length_toList]
   congr 1; omega
theorem spliceA_at {cs xs:List AV} {o:Nat} (h:o + xs.length≤cs.length) (k:Nat):(spliceA cs o xs)[k]? = if k < o then cs[k]? else if k < o + xs.length then xs[k - o]? else cs[k]?:=by
 have l1:(cs.take o).length = o:=by rw [List.length_take]; omega
 simp only [spliceA,List.append_assoc]
 by_cases h1:k < o
 ·rw [if_pos h1,List.getElem?_append_left (by omega),List.getElem?_take,if_pos h1]
 ·rw [if_neg h1,List.getElem?_append_right (by omega),l1]
  by_cases h2:k < o + xs.length
  ·rw [if_pos h2,List.getElem?_append_left (by omega)]
  ·rw [if_neg h2,List.getElem?_append_right (by omega),List.getElem?_drop]
   congr 1; omega
theorem closed_cells {c:AV} (h:c.closed = true):c.cells = [c]:=by
 cases c <;> simp_all [AV.cells,AV.closed]
theorem reC_cells {e:AV} {cs:List AV} (hl:cs.length = e.cells.length) (hc:∀ c ∈ cs,c.closed = true):(reC e cs).cells = cs∧(reC e cs).closed1 = true:=by
 by_cases he:∃ ds,e = .agg ds
 ·obtain ⟨ds,rfl⟩:=he
  exact ⟨rfl,by simpa [reC,AV.closed1,List.all_eq_true] using hc⟩
 ·have e1:e.cells = [e]:=by cases e <;> simp_all [AV.cells]
  have e2:reC e cs = cs.headD .junk:=by cases e <;> simp_all [reC]
  rw [e1] at hl
  match cs,hl with
  | [c],_ =>
   have:=hc c (by simp)
   rw [e2]
   exact ⟨closed_cells this,closed_closed1 this⟩
theorem own_write {sz i j:Nat} {es:List AV} {e x:AV} {vx:Value} {arr:Array Value} (hsz:∀ e ∈ es,e.cells.length = sz) (hcl:∀ e ∈ es,e.closed1 = true)
  (hc:∀ (i:Nat) (e:AV) (j:Nat) (c:AV),es[i]? = some e→e.cells[j]? = some c→∃ v,arr[i * sz + j]? = some v∧Rep E w c v∧v.oneCell' = true)
  (he:es[i]? = some e) (hx:Rep E w x vx) (hxc:x.closed1 = true) (hj:j + x.cells.length≤sz) (h0:0 < x.cells.length) :
  i * sz + j + vx.cells.size≤arr.size∧(∀ e' ∈ es.set i (reC e (spliceA e.cells j x.cells)),e'.cells.length = sz∧e'.closed1 = true) ∧
  ∀ (i':Nat) (e':AV) (j':Nat) (c:AV),(es.set i (reC e (spliceA e.cells j x.cells)))[i']? = some e'→e'.cells[j']? = some c→∃ v,(spliceV arr (i * sz + j) vx.cells)[i' * sz + j']? = some v∧Rep E w c v∧v.oneCell' = true:=by
 have hes:=hsz e (List.mem_of_getElem? he)
 have hec:=hcl e (List.mem_of_getElem? he)
 obtain ⟨hn,hcr⟩:=hx.cr (closed1_plain hxc)
 have hspl:(spliceA e.cells j x.cells).length = e.cells.length:=by
  simp only [spliceA,List.length_append,List.length_take,List.length_drop]; omega
 have hsc:∀ c ∈ spliceA e.cells j x.cells,c.closed = true:=fun c hm=>by
  obtain ⟨k,hk⟩:=List.mem_iff_getElem?.1 hm
  rw [spliceA_at (by omega)] at hk
  split at hk
  ·exact closed1_cells hec hk
  ·split at hk
   ·exact closed1_cells hxc hk
   ·exact closed1_cells hec hk
 obtain ⟨r1,r2⟩:=reC_cells hspl hsc
 have hroom:i * sz + j + vx.cells.size≤arr.size:=by
  have hk:j + x.cells.length - 1 < e.cells.length:=by omega
  obtain ⟨v,hv,_⟩:=hc i e (j + x.cells.length - 1) _ he (List.getElem?_eq_getElem hk)
  have:=(Array.getElem?_eq_some_iff.1 hv).1
  omega
 refine ⟨hroom,fun e' hm=>?_,fun i' e' j' c hi hj'=>?_⟩
 ·rcases List.mem_or_eq_of_mem_set hm with hm | rfl
  ·exact ⟨hsz e' hm,hcl e' hm⟩
  ·exact ⟨by rw [r1,hspl,hes],r2⟩
 ·have hlt:i < es.length:=(List.getElem?_eq_some_iff.1 he).1
  rw [List.getElem?_set] at hi
  rw [spliceV_at hroom]
  by_cases hii:i = i'
  ·subst hii
   rw [if_pos rfl,if_pos hlt] at hi
   injection hi with hi; subst hi
   rw [r1,spliceA_at (by omega)] at hj'
   by_cases h1:j' < j
   ·rw [if_pos h1] at hj'
    rw [if_pos (by omega)]
    exact hc i e j' c he hj'
   ·rw [if_neg h1] at hj'
    rw [if_neg (by omega)]
    by_cases h2:j' < j + x.cells.length
    ·rw [if_pos h2] at hj'
     rw [if_pos (by omega),show i * sz + j' - (i * sz + j) = j' - j by omega]
     have hlt2:j' - j < vx.cells.size:=by omega
     exact ⟨_,Array.getElem?_eq_getElem hlt2,hcr _ c _ hj' (Array.getElem?_eq_getElem hlt2)⟩
    ·rw [if_neg h2] at hj'
     rw [if_neg (by omega)]
     exact hc i e j' c he hj'
  ·rw [if_neg hii] at hi
   obtain ⟨v,hv,hr⟩:=hc i' e' j' c hi hj'
   have hj2:j' < sz:=by
    have:=(List.getElem?_eq_some_iff.1 hj').1
    rw [hsz e' (List.mem_of_getElem? hi)] at this; exact this
   refine ⟨v,?_,hr⟩
   rcases Nat.lt_or_gt_of_ne hii with hlt2 | hlt2
   ·have:(i + 1) * sz≤i' * sz:=Nat.mul_le_mul_right _ hlt2
    rw [Nat.add_mul,Nat.one_mul] at this
    rw [if_neg (by omega),if_neg (by omega)]; exact hv
   ·have:(i' + 1) * sz≤i * sz:=Nat.mul_le_mul_right _ hlt2
    rw [Nat.add_mul,Nat.one_mul] at this
    rw [if_pos (by omega)]; exact hv
theorem storeA_run (hS:SR P G N0 w0 I0 S E w) {t:TypeId} {x y:AV} {S':St} {vx vy:Value} (h:storeA P S t x y = some S') (hx:Rep E w x vx) (hy:Rep E w y vy) :
  ∃ w',(Instr.storeAt t vx vy).run P w = .ok () w'∧SR P G N0 w0 I0 S' E w'∧Env.Le E E w w':=by
 unfold storeA at h
 split at h
 ·rename_i b o
  split at h
  ·rename_i cs hb
   split at h
   ·rename_i hh
    obtain ⟨hp,hsz,hle,hro,hrn⟩:=hh
    simp at h; subst h
    obtain ⟨blk,rfl,hB⟩:=rep_ptr hx
    obtain ⟨blk',hB',hbx⟩:=hS.box b cs hb
    obtain ⟨arr,ty,hhp,hn,hc⟩:=hbx.cells hro
    obtain rfl:blk = blk':=by rw [hB] at hB'; injection hB'
    have hcr:=hy.cr hp
    have hrow:=run_storeCells_at P blk o ty vy.cells.toList 0 arr w hhp (by rw [Array.length_toList,hcr.1]; omega) (fun u hu=>by
     obtain ⟨i,hi⟩:=List.mem_iff_getElem?.1 hu
     rw [Array.getElem?_toList] at hi
     have hlt:i < y.cells.length:=by
      have:=(Array.getElem?_eq_some_iff.1 hi).1
      rw [hcr.1] at this; exact this
     exact (hcr.2 i _ u (List.getElem?_eq_getElem hlt) hi).2)
    have hcr2:CR E w (spliceA cs o y.cells) (spliceV arr o vy.cells):=CR.splice ⟨hn,hc⟩ hcr hle
    obtain ⟨h1,h2⟩:=hS.box_set hB hhp hrn hcr2.1 hcr2.2 (Frz.not_row hb hro) (by simp [spliceV]; have:=hcr.1; omega)
    refine ⟨_,?_,h1,h2⟩
    have hsz':vy.cells.size = y.cells.length:=hcr.1
    have e:spliceV arr o vy.cells = (arr.toList.take (o + 0) ++ vy.cells.toList ++ arr.toList.drop (o + 0 + vy.cells.toList.length)).toArray:=by
     simp [spliceV]
    rw [e]
    simp only [Instr.storeAt,Instr.sureAddr,Sem.run_bind,Sem.run_pure,Result.andThen_ok,storeVar,run_sizeOf' hsz,hsz',ne_eq,not_true,if_false,hrow]
   ·cases h
  ·cases h
 ·rename_i b sz i j
  split at h
  ·rename_i sz' es hb
   split at h
   ·rename_i e he
    split at h
    ·rename_i hh
     obtain ⟨rfl,hcl1,hsz,hj,h0⟩:=hh
     injection h with h; subst h
     have hy1:=hy.strip1
     generalize y.strip1 = x1 at hcl1 hsz hj h0 hy1
     cases hx with | mel _ _ _ _ blk hB =>
     obtain ⟨blk',hB',hbx⟩:=hS.box b _ hb
     obtain rfl:blk = blk':=by rw [hB] at hB'; injection hB'
     have hnf:¬ Frz S b:=fun hf=>by
      rcases hf.row hb with e2 | ⟨sz2,es2,e2⟩ <;> simp at e2
     cases hbx with
     | row arr ty hr=>simp [isRow] at hr
     | iter s pos hcs=>simp at hcs
     | map t n es k e D hcs=>simp [mapC] at hcs
     | dead hcs=>simp at hcs
     | own sz2 es2 f arr ty hcs hhp hsz2 hcl2 hc2 hf2 =>
      simp only [List.cons.injEq,AV.tup.injEq,AV.bool.injEq,AV.sl.injEq,and_true] at hcs
      obtain ⟨rfl,rfl,rfl⟩:=hcs
      obtain ⟨hroom,hall,hnew⟩:=own_write hsz2 hcl2 hc2 he hy1 hcl1 hj h0
      have hcr:=hy1.cr (closed1_plain hcl1)
      have hrow:=run_storeCells_at P blk (i * sz' + j) ty vy.cells.toList 0 arr w hhp (by rw [Array.length_toList]; omega) (fun u hu=>by
       obtain ⟨k,hi⟩:=List.mem_iff_getElem?.1 hu
       rw [Array.getElem?_toList] at hi
       have hlt:k < x1.cells.length:=by
        have:=(Array.getElem?_eq_some_iff.1 hi).1
        rw [hcr.1] at this; exact this
       exact (hcr.2 k _ u (List.getElem?_eq_getElem hlt) hi).2)
      have hblk:∀ k,k ≠ blk→(w.setRow blk (spliceV arr (i * sz' + j) vy.cells)).heap[k]? = w.heap[k]?:=fun k hk=>setRow_other w blk k _ hk
      have hrw:rowsOf (w.setRow blk (spliceV arr (i * sz' + j) vy.cells)) blk = rowsOf w blk:=rows_setRow hhp (by simp [spliceV]; omega)
      have hle:Env.Le E E w (w.setRow blk (spliceV arr (i * sz' + j) vy.cells)):=⟨fun b o hi=>⟨hi,World.cell?_of_block (a:=⟨b,o,none⟩) (hblk b (fun e=>hnf ((hS.Blt _ blk hB).2.2.2 o (e ▸ hi))))⟩,fun _ _ h=>h,fun _ _ _ h=>h,fun id' x hx=>by
       by_cases e:x = blk
       ·subst e; exact hrw
       ·exact rowsOf_block (hblk x e)⟩
      obtain ⟨h1,h2⟩:=hS.obj_set (w':=w.setRow blk (spliceV arr (i * sz' + j) vy.cells)) hB rfl rfl rfl (by simp) hblk (cs':=ownC sz' (es.set i (reC e (spliceA e.cells j x1.cells)))) (.own sz' _ true _ ty rfl (setRow_heap w blk arr _ ty _ hhp) (fun e' hm=>(hall e' hm).1) (fun e' hm=>(hall e' hm).2) (fun i' e' j' c hi hj'=>by
       obtain ⟨v,a1,a2,a3⟩:=hnew i' e' j' c hi hj'
       exact ⟨v,a1,a2.le hle,a3⟩) (fun e=>by cases e)) hnf hrw
      refine ⟨_,?_,h1,h2⟩
      have hsz':vy.cells.size = x1.cells.length:=hcr.1
      have e:spliceV arr (i * sz' + j) vy.cells = (arr.toList.take (i * sz' + j + 0) ++ vy.cells.toList ++ arr.toList.drop (i * sz' + j + 0 + vy.cells.toList.length)).toArray:=by
       simp [spliceV]
      rw [e]
      simp only [Instr.storeAt,Instr.sureAddr,Sem.run_bind,Sem.run_pure,Result.andThen_ok,storeVar,run_sizeOf' hsz,hsz',ne_eq,not_true,if_false,hrow]
    ·cases h
   ·cases h
  ·cases h
 ·cases h
theorem map_rep {T:List AV} {a:Act} (hS:SR P G N0 w0 I0 S E w) (hT:TR E w T a.tmps) (xs:Array Operand):∀ (i:Nat) (c:AV) (v:Value),(xs.toList.map (evA G T))[i]? = some c→(xs.map a.eval)[i]? = some v→Rep E w c v:=by
 intro i c v hi hv
 rw [List.getElem?_map,Array.getElem?_toList] at hi
 rw [Array.getElem?_map] at hv
 cases hx:xs[i]? with
 | none=>simp [hx] at hi
 | some x =>
  simp [hx] at hi hv
  subst hi; subst hv
  exact evA_rep hS.glob hT x
theorem parts_rep {T:List AV} {a:Act} (hS:SR P G N0 w0 I0 S E w) (hT:TR E w T a.tmps) (ps:Array (Nat × Operand)):PR E w (ps.toList.map fun p=>(p.1,evA G T p.2)) (ps.map fun p=>(p.1,a.eval p.2)).toList:=by
 refine ⟨by simp,fun i p q hp hq=>?_⟩
 rw [List.getElem?_map,Array.getElem?_toList] at hp
 rw [Array.getElem?_toList,Array.getElem?_map] at hq
 cases hx:ps[i]? with
 | none=>simp [hx] at hp
 | some x =>
  simp [hx] at hp hq
  subst hp; subst hq
  exact ⟨rfl,evA_rep hS.glob hT x.2⟩
theorem newBox_some {bid:Nat} {cs:List AV} {r:AV} {S':St} (h:newBox S bid cs = some (r,S')):S.boxes[bid]? = some none∧r = .ptr bid 0∧S' = { S with boxes:=S.boxes.set bid (some cs) }:=by
 unfold newBox at h
 split at h
 ·rename_i hb
  simp at h
  exact ⟨hb,h.1.symm,h.2.symm⟩
 ·cases h
theorem rangeA_run (hS:SR P G N0 w0 I0 S E w) {bid:Nat} {t:TypeId} {x r:AV} {S':St} {vx:Value} (h:rangeA P S bid t x = some (r,S')) (hx:Rep E w x vx) :
  ∃ v w' E',(Instr.range t vx).run P w = .ok v w'∧SR P G N0 w0 I0 S' E' w'∧Env.Le E E' w w'∧Rep E' w' r v:=by
 unfold rangeA at h
 split at h
 ·rename_i l hu
  obtain ⟨hb,rfl,rfl⟩:=newBox_some h
  cases hx with | str _ s hs =>
  obtain ⟨E',h2,h3,h4⟩:=hS.obj_new bid hb [.tup [.str l,.int .i64 0]] (.stringIter s 0) (.iter s 0 (by rw [hs]; rfl) (heap_alloc_new w _))
  exact ⟨_,_,E',run_range_string w t s hu,h2,h3,.ptr _ _ _ h4⟩
 ·cases h
theorem nextA_run (hS:SR P G N0 w0 I0 S E w) {it r:AV} {b:Bool} {S':St} {vx:Value} {ty:TypeId} (h:nextA S it b = some (r,S')) (hx:Rep E w it vx) :
  ∃ v w' E',(Instr.next vx b ty).run P w = .ok v w'∧SR P G N0 w0 I0 S' E' w'∧Env.Le E E' w w'∧Rep E' w' r v:=by
 unfold nextA at h
 split at h
 ·rename_i id
  split at h
  ·rename_i l p hb
   obtain ⟨blk,rfl,hB⟩:=rep_ptr hx
   obtain ⟨blk',hB',hbx⟩:=hS.box id _ hb
   obtain rfl:blk = blk':=by rw [hB] at hB'; injection hB'
   cases hbx with
   | row arr ty hr _ _ _=>simp [isRow] at hr
   | map t n es k e D hcs=>simp [mapC] at hcs
   | own sz es f arr ty hcs=>simp at hcs
   | dead hcs=>simp at hcs
   | iter s pos hcs hh =>
    obtain ⟨rfl,rfl⟩:l = s.data.toList∧p = (pos:Int):=by
     simp only [List.cons.injEq,AV.tup.injEq,AV.str.injEq,AV.int.injEq,and_true,true_and] at hcs
     exact hcs
    have hl:s.data.toList.length = s.size:=Array.length_toList
    have hd:decodeL s.data.toList (pos:Int).toNat = Utf8.decode s pos:=by
     simp only [decodeL,Int.toNat_natCast]
    rw [hl,hd] at h
    simp only [Int.toNat_natCast] at h
    split at h
    ·rename_i hlt
     simp only [Option.some.injEq,Prod.mk.injEq] at h
     obtain ⟨rfl,rfl⟩:=h
     have hlt':blk < w.heap.size:=(hS.Blt id blk hB).2.2.1
     obtain ⟨h1,h2⟩:=hS.obj_set (w':={ w with heap:=w.heap.setIfInBounds blk (.stringIter s (pos + (Utf8.decode s pos).2)) }) (cs':=[.tup [.str s.data.toList,.int .i64 (pos + (Utf8.decode s pos).2:Nat)]]) hB rfl rfl rfl Array.size_setIfInBounds (fun k hk=>by
      show (w.heap.setIfInBounds blk _)[k]? = _
      rw [Array.getElem?_setIfInBounds,if_neg (Ne.symm hk)]) (.iter s (pos + (Utf8.decode s pos).2) rfl (by
      show (w.heap.setIfInBounds blk _)[blk]? = _
      rw [Array.getElem?_setIfInBounds,if_pos rfl,if_pos hlt'])) (fun hf=>by
      rcases hf.row hb with e2 | ⟨sz2,es2,e2⟩ <;> simp at e2) (by
      unfold rowsOf
      rw [hh]
      show (match (w.heap.setIfInBounds blk _)[blk]? with | some (.cells arr _ _)=>arr.size | _=>0) = _
      rw [Array.getElem?_setIfInBounds,if_pos rfl,if_pos hlt'])
     refine ⟨_,_,E,Lib.run_next_any_at w blk s pos ty hh hlt,h1,h2,.tup _ _ rfl fun i c v hi hv=>?_⟩
     match i,hi,hv with
     | 0,hi,hv=>simp at hi hv; subst hi; subst hv; exact .bool _
     | 1,hi,hv=>simp at hi hv; subst hi; subst hv; exact .int _ _
     | 2,hi,hv=>simp at hi hv; subst hi; subst hv; exact .int _ _
     | i + 3,hi,hv=>simp at hi
    ·rename_i hlt
     simp only [Option.some.injEq,Prod.mk.injEq] at h
     obtain ⟨rfl,rfl⟩:=h
     refine ⟨_,_,E,Lib.run_next_end_at w blk s pos ty hh hlt,hS,Env.Le.refl _ _,.tup _ _ rfl fun i c v hi hv=>?_⟩
     match i,hi,hv with
     | 0,hi,hv=>simp at hi hv; subst hi; subst hv; exact .bool _
     | i + 1,hi,hv=>simp at hi
  ·cases h
 ·cases h
theorem mapAt_some {S:St} {x:AV} {b t:Nat} {n:Int} {es:List AV} (h:mapAt S x = some (b,t,n,es)):x = .mp b∧∃ t':Int,t'.toNat = t∧S.boxes[b]? = some (some [.tup [.int .i64 t',.int .i64 n,.tup es]]):=by
 unfold mapAt at h
 split at h
 ·split at h
  ·rename_i hb
   simp only [Option.some.injEq,Prod.mk.injEq] at h
   obtain ⟨rfl,rfl,rfl,rfl⟩:=h
   exact ⟨rfl,_,rfl,hb⟩
  ·cases h
 ·cases h
theorem rep_mp {b:Nat} {v:Value} (h:Rep E w (.mp b) v):∃ blk,v = .map (some blk)∧E.B b = some blk:=by cases h with | mp _ blk h=>exact ⟨blk,rfl,h⟩
theorem map_not_frz {x:AV} {b t:Nat} {n:Int} {es:List AV} (h:mapAt S x = some (b,t,n,es)):¬ Frz S b:=fun hf=>by
 obtain ⟨_,t',_,hb⟩:=mapAt_some h
 rcases hf.row hb with e2 | ⟨sz2,es2,e2⟩ <;> simp at e2
theorem map_at (hS:SR P G N0 w0 I0 S E w) {x:AV} {vx:Value} {b t t2 k e:Nat} {n:Int} {es:List AV} (h:mapAt S x = some (b,t,n,es)) (hk:keyKind P t2 = some (k,e)) (ht:t = t2) (hx:Rep E w x vx) :
  ∃ blk D,vx = .map (some blk)∧E.B b = some blk∧0≤n∧GoodM P k es∧MapRel P k es D∧w.ownsMap P k rdE blk n.toNat D:=by
 obtain ⟨rfl,t',ht',hb⟩:=mapAt_some h
 obtain ⟨blk,rfl,hB⟩:=rep_mp hx
 obtain ⟨blk',hB',hbx⟩:=hS.box b _ hb
 obtain rfl:blk = blk':=by rw [hB] at hB'; injection hB'
 cases hbx with
 | row arr ty hr _ _ _=>simp [isRow] at hr
 | iter s pos hcs hh=>simp at hcs
 | own sz es f arr ty hcs=>simp at hcs
 | dead hcs=>simp at hcs
 | map t3 n3 es3 k3 e3 D hcs hk3 hg hD ho =>
  simp only [mapC,List.cons.injEq,AV.tup.injEq,AV.int.injEq,and_true,true_and] at hcs
  obtain ⟨h1,h2,h3⟩:=hcs
  subst h2; subst h3
  have:t3 = t2:=by omega
  subst this
  rw [hk] at hk3
  simp at hk3
  obtain ⟨rfl,rfl⟩:=hk3
  exact ⟨blk,D,rfl,hB,by omega,hg,hD,by simpa using ho⟩
theorem makeMapA_run (hS:SR P G N0 w0 I0 S E w) {bid:Nat} {t:TypeId} {r:AV} {S':St} (h:makeMapA P S bid t = some (r,S')) :
  ∃ v w' E',(Instr.makeMap t none).run P w = .ok v w'∧SR P G N0 w0 I0 S' E' w'∧Env.Le E E' w w'∧Rep E' w' r v:=by
 unfold makeMapA at h
 split at h
 ·rename_i hk
  split at h
  ·rename_i hb
   simp only [Option.some.injEq,Prod.mk.injEq] at h
   obtain ⟨rfl,rfl⟩:=h
   obtain ⟨⟨k,e⟩,hk⟩:=Option.isSome_iff_exists.1 hk
   obtain ⟨E',h2,h3,h4⟩:=hS.obj_new bid hb (mapC t 0 []) (.map #[] 0) (.map t 0 [] k e (.map []) rfl hk (fun e he=>by cases he) mapRel_nil (World.ownsMap_made _ _ _ _))
   exact ⟨_,_,E',rfl,h2,h3,.mp _ _ h4⟩
  ·cases h
 ·cases h
theorem lookupA_run (hS:SR P G N0 w0 I0 S E w) {t:TypeId} {x k r:AV} {ok:Bool} {vx vk:Value} (h:lookupA P S t x k ok = some r) (hx:Rep E w x vx) (hk:Rep E w k vk) :
  ∃ v,(Instr.lookup t vx vk ok).run P w = .ok v w∧Rep E w r v:=by
 unfold lookupA at h
 split at h
 ·rename_i b t' n es kt et hm hkk
  split at h
  ·rename_i z hz
   split at h
   ·rename_i hc
    obtain ⟨ht,hkey,hzd⟩:=hc
    injection h with h; subst h
    obtain ⟨blk,D,rfl,hB,hn,hg,hD,ho⟩:=map_at hS hm hkk ht hx
    obtain ⟨hty,K⟩:=keyKind_some hkk
    obtain ⟨kl,hkl⟩:=Option.isSome_iff_exists.1 hkey
    obtain ⟨zd,hzd⟩:=Option.isSome_iff_exists.1 hzd
    have hkv:=(keyL_rep hkl hk).1
    have hzr:rdE z = some (zd,[]):=by simp only [rdE]; rw [val_rep hzd (absV_rep (E:=E) (w:=w) z)]; rfl
    have hval:∀ {v:Value} {ps:List MemPlace},rdE v = some (D.atKey kl zd,ps)→Rep E w ((lookM es k).getD (absV z)) v:=fun {v ps} hv=>by
     have hv':=rdE_some hv
     simp only at hv'
     rw [hD.2 k kl hkl zd] at hv'
     cases hl:lookM es k with
     | none=>rw [hl] at hv'; exact val_inv hzd hv'
     | some a =>
      obtain ⟨d,hd⟩:=lookM_good hg hl
      rw [hl] at hv'
      simp [hd] at hv'
      exact val_inv hd hv'
    cases ok with
    | false =>
     obtain ⟨v,ps,hrun,hv⟩:=ho.lookup K hty (run_zero hz w) hzr hkv
     exact ⟨v,hrun,hval hv⟩
    | true =>
     obtain ⟨v,ps,hrun,hv⟩:=ho.look_ok K hty (run_zero hz w) hzr hkv
     refine ⟨_,hrun,?_⟩
     rw [has_of hD hg hkl]
     refine .tup _ _ rfl fun i c u hi hu=>?_
     match i,hi,hu with
     | 0,hi,hu=>simp at hi hu; subst hi; subst hu; exact hval hv
     | 1,hi,hu=>simp at hi hu; subst hi; subst hu; exact .bool _
     | i + 2,hi,hu=>simp at hi
   ·cases h
  ·cases h
 ·cases h
theorem map_set (hS:SR P G N0 w0 I0 S E w) {id blk:Nat} {w':World} {cs:List AV} (hB:E.B id = some blk) (ht:w.mapTurned w' blk) (hc:BoxAt P E w' blk cs) (hnf:¬ Frz S id) :
  SR P G N0 w0 I0 { S with boxes:=S.boxes.set id (some cs) } E w'∧Env.Le E E w w':=by
 have hg:=ht.grown
 obtain ⟨es,clock,es',clock',hb,rfl⟩:=ht
 exact hS.obj_set hB rfl rfl rfl (by simp [ChangeMaps.setBlock]) (fun k hk=>ChangeMaps.heap_setBlock_other hb _ hk) hc hnf (by
  unfold rowsOf
  rw [hb,ChangeMaps.heap_setBlock_same hb])
theorem updateA_run (hS:SR P G N0 w0 I0 S E w) {t:TypeId} {x k u:AV} {S':St} {vx vk vu:Value} (h:updateA P S t x k u = some S') (hx:Rep E w x vx) (hk:Rep E w k vk) (hu:Rep E w u vu) :
  ∃ w',(Instr.mapUpdate t vx vk vu).run P w = .ok () w'∧SR P G N0 w0 I0 S' E w'∧Env.Le E E w w':=by
 unfold updateA at h
 split at h
 ·rename_i b t' n es kt et hm hkk
  split at h
  ·rename_i hc
   obtain ⟨ht,hkey,hv,h0,hn⟩:=hc
   injection h with h; subst h
   obtain ⟨blk,D,rfl,hB,_,hg,hD,ho⟩:=map_at hS hm hkk ht hx
   obtain ⟨hty,K⟩:=keyKind_some hkk
   obtain ⟨kl,hkl⟩:=Option.isSome_iff_exists.1 hkey
   obtain ⟨d,hd⟩:=Option.isSome_iff_exists.1 hv
   have hr:rdE vu = some (d,[]):=by simp only [rdE]; rw [val_rep hd hu]; rfl
   obtain ⟨w',hrun,ho',htn⟩:=ho.store K hty (by unfold maxLen; unfold roomA at hn; omega) (keyL_rep hkl hk).1 hr
   have:=map_set hS hB htn (cs:=mapC t (n + 1) (keptPutM es k u)) (.map t (n.toNat + 1) _ kt et _ (by congr 1; omega) hkk (goodM_put hg hkl hd) (mapRel_put hD hg hkl hd) ho') (map_not_frz hm)
   exact ⟨w',hrun,this.1,this.2⟩
  ·cases h
 ·cases h
theorem deleteA_run (hS:SR P G N0 w0 I0 S E w) {t t2 ty:TypeId} {x k:AV} {S':St} {vx vk:Value} (h:deleteA P S t x k = some S') (ht2:∀ k e,keyKind P t = some (k,e)→t2 = k) (hx:Rep E w x vx) (hk:Rep E w k vk) :
  ∃ w',(Builtin.delete_ #[t,t2] ty #[vx,vk]).run P w = .ok (.tuple #[]) w'∧SR P G N0 w0 I0 S' E w'∧Env.Le E E w w':=by
 unfold deleteA at h
 split at h
 ·rename_i b t' n es kt et hm hkk
  split at h
  ·rename_i hc
   obtain ⟨ht,hkey⟩:=hc
   injection h with h; subst h
   obtain rfl:=ht2 _ _ hkk
   obtain ⟨blk,D,rfl,hB,h0,hg,hD,ho⟩:=map_at hS hm hkk ht hx
   obtain ⟨hty,K⟩:=keyKind_some hkk
   obtain ⟨kl,hkl⟩:=Option.isSome_iff_exists.1 hkey
   obtain ⟨w',hrun,ho',htn⟩:=ho.drop K hty (keyL_rep hkl hk).1 ty
   have:=map_set hS hB htn (cs:=mapC t n (keptDelM es k)) (.map t n.toNat _ t2 et _ (by congr 1; omega) hkk (goodM_del hg k) (mapRel_del hD hg hkl) ho') (map_not_frz hm)
   exact ⟨w',hrun,this.1,this.2⟩
  ·cases h
 ·cases h
theorem clearA_run (hS:SR P G N0 w0 I0 S E w) {t ty:TypeId} {x:AV} {S':St} {vx:Value} (h:clearA P S t x = some S') (hx:Rep E w x vx) :
  ∃ w',(Builtin.clear_ #[t] ty #[vx]).run P w = .ok (.tuple #[]) w'∧SR P G N0 w0 I0 S' E w'∧Env.Le E E w w':=by
 unfold clearA at h
 split at h
 ·rename_i e b sz i n hu
  split at h
  ·rename_i sz' es z hb hz
   split at h
   ·rename_i hc
    obtain ⟨⟨rfl,h0,hzs,hz1⟩,hin⟩:=hc
    injection h with h; subst h
    cases hx with | mst _ _ _ _ blk cap A hB hA =>
    obtain ⟨blk',hB',hbx⟩:=hS.box b _ hb
    obtain rfl:blk = blk':=by rw [hB] at hB'; injection hB'
    have hnf:¬ Frz S b:=fun hf=>by
     rcases hf.row hb with e2 | ⟨sz2,es2,e2⟩ <;> simp at e2
    cases hbx with
    | row arr ty hr=>simp [isRow] at hr
    | iter s pos hcs=>simp at hcs
    | map t n es k e D hcs=>simp [mapC] at hcs
    | dead hcs=>simp at hcs
    | own sz2 es2 f arr ty' hcs hhp hsz2 hcl2 hc2 hf2 =>
     simp only [List.cons.injEq,AV.tup.injEq,AV.bool.injEq,AV.sl.injEq,and_true] at hcs
     obtain ⟨rfl,rfl,rfl⟩:=hcs
     have take_at:∀ (i':Nat) (e':AV),(es.take i)[i']? = some e'→i' < i∧es[i']? = some e':=fun i' e' hi=>by
      rw [List.getElem?_take] at hi
      split at hi
      ·exact ⟨by assumption,hi⟩
      ·cases hi
     cases n with
     | zero =>
      obtain ⟨h1,h2⟩:=hS.obj_set (w':=w) hB rfl rfl rfl rfl (fun _ _=>rfl) (cs':=ownC sz' (es.take i)) (.own sz' _ true _ ty' rfl hhp (fun e' hm=>hsz2 e' (List.mem_of_mem_take hm)) (fun e' hm=>hcl2 e' (List.mem_of_mem_take hm)) (fun i' e' j' c hi hj'=>hc2 i' e' j' c (take_at i' e' hi).2 hj') (fun e=>by cases e)) hnf rfl
      refine ⟨w,?_,h1,h2⟩
      cases A <;> simp [Builtin.clear_,run_underlying hu]
     | succ n =>
      obtain rfl:=hA.resolve_left (by omega)
      have hroom:(i + (n + 1)) * sz'≤arr.size:=by
       have hlt:i + n < es.length:=by omega
       have hg:=List.getElem?_eq_getElem hlt
       have hl:=hsz2 _ (List.getElem_mem hlt)
       have hg2:(es[i + n]).cells[sz' - 1]? = some ((es[i + n]).cells[sz' - 1]'(by omega)):=List.getElem?_eq_getElem (by omega)
       obtain ⟨v,hv,_⟩:=hc2 _ _ _ _ hg hg2
       have:=(Array.getElem?_eq_some_iff.1 hv).1
       have e:(i + (n + 1)) * sz' = (i + n) * sz' + sz':=by rw [← Nat.add_assoc,Nat.add_mul,Nat.one_mul]
       omega
      have hzl:(Builtin.zeroCells z.cells (n + 1)).toList.length = (n + 1) * sz':=by simp [Builtin.zeroCells,hzs]
      have hzo:∀ v ∈ (Builtin.zeroCells z.cells (n + 1)).toList,v.oneCell' = true:=fun v hv=>by
       simp only [Builtin.zeroCells,Array.toList_map,List.mem_map,Array.mem_toList_iff,Array.mem_range] at hv
       obtain ⟨k,hk,rfl⟩:=hv
       have hlt:k % z.cells.size < z.cells.size:=Nat.mod_lt _ (by omega)
       rw [getElem!_pos z.cells _ hlt]
       exact List.all_eq_true.1 hz1 _ (by simp)
      generalize hzz:(Builtin.zeroCells z.cells (n + 1)).toList = zs at hzl hzo
      have hadd:(i + (n + 1)) * sz' = i * sz' + (n + 1) * sz':=Nat.add_mul _ _ _
      have hrow:=run_storeCells_at P blk (i * sz') ty' zs 0 arr w hhp (by omega) hzo
      have hblk:∀ (ar:Array Value) k,k ≠ blk→(w.setRow blk ar).heap[k]? = w.heap[k]?:=fun ar k hk=>setRow_other w blk k _ hk
      have hsz4:((arr.toList.take (i * sz' + 0) ++ zs ++ arr.toList.drop (i * sz' + 0 + zs.length)).toArray).size = arr.size:=by
       simp; omega
      have hrw:rowsOf (w.setRow blk (arr.toList.take (i * sz' + 0) ++ zs ++ arr.toList.drop (i * sz' + 0 + zs.length)).toArray) blk = rowsOf w blk:=rows_setRow hhp hsz4
      have hat:∀ k,k < i * sz'→(arr.toList.take (i * sz' + 0) ++ zs ++ arr.toList.drop (i * sz' + 0 + zs.length)).toArray[k]? = arr[k]?:=fun k hk=>by
       rw [List.getElem?_toArray,List.append_assoc,List.getElem?_append_left (by simp; omega),List.getElem?_take_of_lt (by omega),Array.getElem?_toList]
      generalize (arr.toList.take (i * sz' + 0) ++ zs ++ arr.toList.drop (i * sz' + 0 + zs.length)).toArray = arr2 at hrow hsz4 hrw hat
      have hle:Env.Le E E w (w.setRow blk arr2):=⟨fun b o hi=>⟨hi,World.cell?_of_block (a:=⟨b,o,none⟩) (hblk arr2 b (fun e=>hnf ((hS.Blt _ blk hB).2.2.2 o (e ▸ hi))))⟩,fun _ _ h=>h,fun _ _ _ h=>h,fun id' x hx=>by
       by_cases e:x = blk
       ·subst e; exact hrw
       ·exact rowsOf_block (hblk arr2 x e)⟩
      obtain ⟨h1,h2⟩:=hS.obj_set (w':=w.setRow blk arr2) hB rfl rfl rfl (by simp) (hblk arr2) (cs':=ownC sz' (es.take i)) (.own sz' _ true _ ty' rfl (setRow_heap w blk arr _ ty' _ hhp) (fun e' hm=>hsz2 e' (List.mem_of_mem_take hm)) (fun e' hm=>hcl2 e' (List.mem_of_mem_take hm)) (fun i' e' j' c hi hj'=>by
       obtain ⟨hlt,hi⟩:=take_at i' e' hi
       obtain ⟨v,a1,a2,a3⟩:=hc2 i' e' j' c hi hj'
       have hj2:j' < sz':=by
        have:=(List.getElem?_eq_some_iff.1 hj').1
        rw [hsz2 e' (List.mem_of_getElem? hi)] at this; exact this
       have:(i' + 1) * sz'≤i * sz':=Nat.mul_le_mul_right _ hlt
       rw [Nat.add_mul,Nat.one_mul] at this
       exact ⟨v,by rw [hat _ (by omega)]; exact a1,a2.le hle,a3⟩) (fun e=>by cases e)) hnf hrw
      refine ⟨_,?_,h1,h2⟩
      simp only [Builtin.clear_,run_underlying hu,Sem.run_bind,run_zero hz,Result.andThen_ok,hzz,hrow,Sem.run_pure,List.getElem?_toArray,List.getElem?_cons_zero]
   ·cases h
  ·cases h
 ·cases h
theorem vals_take {sz:Nat} {es:List AV} {vals:List Value} (h:Vals E w sz es vals) (k:Nat):Vals E w sz (es.take k) (vals.take (k * sz)):=by
 obtain ⟨h1,h2,h3,h4,h5⟩:=h
 refine ⟨?_,fun e he=>h2 e (List.mem_of_mem_take he),fun e he=>h3 e (List.mem_of_mem_take he),fun u hu=>h4 u (List.mem_of_mem_take hu),fun i e j c hi hj=>?_⟩
 ·rw [List.length_take,List.length_take,h1]
  by_cases hk:k≤es.length
  ·rw [Nat.min_eq_left hk,Nat.min_eq_left (Nat.mul_le_mul_right _ hk)]
  ·rw [Nat.min_eq_right (show es.length≤k by omega),Nat.min_eq_right (Nat.mul_le_mul_right sz (show es.length≤k by omega))]
 ·rw [List.getElem?_take] at hi
  split at hi
  case isFalse=>cases hi
  rename_i hik
  obtain ⟨u,hu,hr⟩:=h5 i e j c hi hj
  refine ⟨u,?_,hr⟩
  have hjs:j < sz:=by
   have:=(List.getElem?_eq_some_iff.1 hj).1
   rw [h2 e (List.mem_of_getElem? hi)] at this; exact this
  have:(i + 1) * sz≤k * sz:=Nat.mul_le_mul_right _ hik
  rw [Nat.add_mul,Nat.one_mul] at this
  rw [List.getElem?_take,if_pos (by omega)]; exact hu
theorem own_writes (hS:SR P G N0 w0 I0 S E w) {b blk sz i:Nat} {es ys:List AV} {zs:List Value} (hb:S.boxes[b]? = some (some (ownC sz es))) (h0:0 < sz) (hB:E.B b = some blk) (hin:i + ys.length≤es.length) (hv:Vals E w sz ys zs) :
  ∃ w',(storeCells ⟨blk,i * sz,none⟩ zs).run P w = .ok () w'∧SR P G N0 w0 I0 { S with boxes:=S.boxes.set b (some (ownC sz (es.take i ++ ys ++ es.drop (i + ys.length)))) } E w'∧Env.Le E E w w':=by
 obtain ⟨blk',hB',hbx⟩:=hS.box b _ hb
 obtain rfl:blk = blk':=by rw [hB] at hB'; injection hB'
 have hnf:¬ Frz S b:=fun hf=>by
  rcases hf.row hb with e2 | ⟨sz2,es2,e2⟩ <;> simp at e2
 cases hbx with
 | row arr ty hr=>simp [isRow] at hr
 | iter s pos hcs=>simp at hcs
 | map t n es k e D hcs=>simp [mapC] at hcs
 | dead hcs=>simp at hcs
 | own sz2 es2 f arr ty' hcs hhp hsz2 hcl2 hc2 hf2 =>
  simp only [List.cons.injEq,AV.tup.injEq,AV.bool.injEq,AV.sl.injEq,and_true] at hcs
  obtain ⟨rfl,rfl,rfl⟩:=hcs
  obtain ⟨v1,v2,v3,v4,v5⟩:=hv
  have hroom:(i + ys.length) * sz≤arr.size:=by
   cases hn:i + ys.length with
   | zero=>simp
   | succ n =>
    have hlt:n < es.length:=by omega
    have hg:=List.getElem?_eq_getElem hlt
    have hl:=hsz2 _ (List.getElem_mem hlt)
    have hg2:(es[n]).cells[sz - 1]? = some ((es[n]).cells[sz - 1]'(by omega)):=List.getElem?_eq_getElem (by omega)
    obtain ⟨v,hv,_⟩:=hc2 _ _ _ _ hg hg2
    have:=(Array.getElem?_eq_some_iff.1 hv).1
    rw [Nat.add_mul,Nat.one_mul]
    omega
  have hadd:(i + ys.length) * sz = i * sz + ys.length * sz:=Nat.add_mul _ _ _
  have hrow:=run_storeCells_at P blk (i * sz) ty' zs 0 arr w hhp (by omega) v4
  have hblk:∀ (ar:Array Value) k,k ≠ blk→(w.setRow blk ar).heap[k]? = w.heap[k]?:=fun ar k hk=>setRow_other w blk k _ hk
  have hsz4:((arr.toList.take (i * sz + 0) ++ zs ++ arr.toList.drop (i * sz + 0 + zs.length)).toArray).size = arr.size:=by
   simp; omega
  have hrw:rowsOf (w.setRow blk (arr.toList.take (i * sz + 0) ++ zs ++ arr.toList.drop (i * sz + 0 + zs.length)).toArray) blk = rowsOf w blk:=rows_setRow hhp hsz4
  have hat1:∀ k,k < i * sz→(arr.toList.take (i * sz + 0) ++ zs ++ arr.toList.drop (i * sz + 0 + zs.length)).toArray[k]? = arr[k]?:=fun k hk=>by
   rw [List.getElem?_toArray,List.append_assoc,List.getElem?_append_left (by simp; omega),List.getElem?_take_of_lt (by omega),Array.getElem?_toList]
  have hat2:∀ k,k < ys.length * sz→(arr.toList.take (i * sz + 0) ++ zs ++ arr.toList.drop (i * sz + 0 + zs.length)).toArray[i * sz + k]? = zs[k]?:=fun k hk=>by
   have hlen:(arr.toList.take (i * sz + 0)).length = i * sz:=by simp; omega
   rw [List.getElem?_toArray,List.append_assoc,List.getElem?_append_right (by omega),hlen,List.getElem?_append_left (by omega)]
   congr 1; omega
  have hat3:∀ k,(i + ys.length) * sz≤k→(arr.toList.take (i * sz + 0) ++ zs ++ arr.toList.drop (i * sz + 0 + zs.length)).toArray[k]? = arr[k]?:=fun k hk=>by
   have hlen:(arr.toList.take (i * sz + 0) ++ zs).length = (i + ys.length) * sz:=by simp; omega
   rw [List.getElem?_toArray,List.getElem?_append_right (by omega),hlen,List.getElem?_drop,← Array.getElem?_toList]
   congr 1; omega
  generalize (arr.toList.take (i * sz + 0) ++ zs ++ arr.toList.drop (i * sz + 0 + zs.length)).toArray = arr2 at hrow hsz4 hrw hat1 hat2 hat3
  have hle:Env.Le E E w (w.setRow blk arr2):=⟨fun b o hi=>⟨hi,World.cell?_of_block (a:=⟨b,o,none⟩) (hblk arr2 b (fun e=>hnf ((hS.Blt _ blk hB).2.2.2 o (e ▸ hi))))⟩,fun _ _ h=>h,fun _ _ _ h=>h,fun id' x hx=>by
   by_cases e:x = blk
   ·subst e; exact hrw
   ·exact rowsOf_block (hblk arr2 x e)⟩
  have mem:∀ e ∈ es.take i ++ ys ++ es.drop (i + ys.length),e ∈ es∨e ∈ ys:=fun e he=>by
   simp only [List.mem_append] at he
   rcases he with (he | he) | he
   ·exact .inl (List.mem_of_mem_take he)
   ·exact .inr he
   ·exact .inl (List.mem_of_mem_drop he)
  obtain ⟨h1,h2⟩:=hS.obj_set (w':=w.setRow blk arr2) hB rfl rfl rfl (by simp) (hblk arr2) (cs':=ownC sz (es.take i ++ ys ++ es.drop (i + ys.length))) (.own sz _ true _ ty' rfl (setRow_heap w blk arr _ ty' _ hhp)
   (fun e' hm=>(mem e' hm).elim (hsz2 e') (v2 e')) (fun e' hm=>(mem e' hm).elim (hcl2 e') (v3 e')) (fun i' e' j' c hi hj'=>by
    have hj2:∀ {l:List AV},(∀ e ∈ l,e.cells.length = sz)→e' ∈ l→j' < sz:=fun h1 h2=>by
     have:=(List.getElem?_eq_some_iff.1 hj').1
     rw [h1 e' h2] at this; exact this
    have hlt:(es.take i).length = i:=by simp; omega
    have hlt2:(es.take i ++ ys).length = i + ys.length:=by rw [List.length_append,hlt]
    by_cases c1:i' < i
    ·rw [List.append_assoc,List.getElem?_append_left (by omega),List.getElem?_take_of_lt c1] at hi
     obtain ⟨v,a1,a2,a3⟩:=hc2 i' e' j' c hi hj'
     have:=hj2 hsz2 (List.mem_of_getElem? hi)
     have hm:(i' + 1) * sz≤i * sz:=Nat.mul_le_mul_right _ c1
     rw [Nat.add_mul,Nat.one_mul] at hm
     exact ⟨v,by rw [hat1 _ (by omega)]; exact a1,a2.le hle,a3⟩
    ·by_cases c2:i' < i + ys.length
     ·rw [List.getElem?_append_left (by omega),List.getElem?_append_right (by omega),hlt] at hi
      obtain ⟨u,a1,a2⟩:=v5 (i' - i) e' j' c hi hj'
      have:=hj2 v2 (List.mem_of_getElem? hi)
      have hm:(i' - i + 1) * sz≤ys.length * sz:=Nat.mul_le_mul_right _ (by omega)
      rw [Nat.add_mul,Nat.one_mul] at hm
      have e1:i' * sz = i * sz + (i' - i) * sz:=by rw [← Nat.add_mul]; congr 1; omega
      refine ⟨u,?_,a2.le hle,v4 u (List.mem_of_getElem? a1)⟩
      rw [e1,Nat.add_assoc,hat2 _ (by omega)]; exact a1
     ·rw [List.getElem?_append_right (by omega),hlt2,List.getElem?_drop] at hi
      rw [show i + ys.length + (i' - (i + ys.length)) = i' by omega] at hi
      obtain ⟨v,a1,a2,a3⟩:=hc2 i' e' j' c hi hj'
      have hm:(i + ys.length) * sz≤i' * sz:=Nat.mul_le_mul_right _ (by omega)
      exact ⟨v,by rw [hat3 _ (by omega)]; exact a1,a2.le hle,a3⟩) (fun e=>by cases e)) hnf hrw
  exact ⟨_,hrow,h1,h2⟩
theorem copyTo_run (hS:SR P G N0 w0 I0 S E w) {t t2 ty:TypeId} {e:TypeId} {b sz i n sy blk cap:Nat} {ys:List AV} {o:Own} {A:Option Addr} {r:AV} {S':St} {vy:Value} (hu:P.underlying t = some (.slice e)) (h:copyTo P S e b sz i n sy ys = some (r,S')) (hB:E.B b = some blk)
  (hA:n = 0∨A = some ⟨blk,i * sz,none⟩) (hy:Rep E w (.sl sy ys o) vy) :
  ∃ v w',(Builtin.copy_ #[t,t2] ty #[.slice A n cap,vy]).run P w = .ok v w'∧SR P G N0 w0 I0 S' E w'∧Env.Le E E w w'∧Rep E w' r v:=by
 unfold copyTo at h
 split at h
 case h_2=>cases h
 rename_i sz' es hb
 split at h
 case isFalse=>cases h
 rename_i hc
 obtain ⟨⟨rfl,h0,hz⟩,hsy,hin⟩:=hc
 injection h with h
 injection h with h1 h2
 subst h1; subst h2
 obtain ⟨B2,cap2,rfl⟩:∃ B2 cap2,vy = .slice B2 ys.length cap2:=by cases hy with | sl _ _ _ A cap=>exact ⟨A,cap,rfl⟩
 have hy':Rep E w (.sl sz' ys o) (.slice B2 ys.length cap2):=by
  rcases hsy with rfl | rfl
  ·exact hy
  ·cases hy with
   | sl _ _ _ A cap u hcap hmax hA hsz hcl ho hr h1=>exact .sl sz' [] o _ _ u hcap hmax (.inl rfl) (by simp) (by simp) ho (by simp) h1
 obtain ⟨vals,hvals,_,hat⟩:=rep_vals (P:=P) hy' h0
 have hB2:ys = []∨∃ b2 off2,B2 = some ⟨b2,off2,none⟩:=by
  cases hy' with | sl _ _ _ _ _ u hcap hmax hA _ _ _ _ _ =>
  rcases hA with hA | ⟨b,off,hA,_⟩
  ·exact .inl hA
  ·exact .inr ⟨b,off,hA⟩
 have hvt:=vals_take hvals n
 have hlen:(ys.take n).length = min ys.length n:=by rw [List.length_take,Nat.min_comm]
 have hin2:i + (ys.take n).length≤es.length:=by rw [hlen]; omega
 have hvl:(vals.take (n * sz')).length = Nat.min ys.length n * sz':=by rw [hvt.1,hlen]
 have hsize:(sizeOf e).run P w = .ok sz' w:=run_sizeOf' hz w
 have hfirst:(Builtin.firstCells sz' (Nat.min ys.length n) (.slice B2 ys.length cap2)).run P w = .ok (vals.take (n * sz')).toArray w:=by
  rcases hB2 with rfl | ⟨b2,off2,rfl⟩
  ·have hv0:vals = []:=List.eq_nil_of_length_eq_zero (by rw [hvals.1]; simp)
   subst hv0
   cases B2 with
   | none=>simp [Builtin.firstCells]
   | some a =>
    have:=run_loadCells_list (P:=P) (w:=w) a [] (by simp)
    simpa [Builtin.firstCells] using this
  ·have:=run_loadCells_list (P:=P) (w:=w) ⟨b2,off2,none⟩ (vals.take (n * sz')) (fun j v hj=>by
    rw [List.getElem?_take] at hj
    split at hj
    ·rw [Addr.add_lit]; exact (hat b2 off2 rfl j v hj).2
    ·cases hj)
   rw [hvl] at this
   exact this
 obtain ⟨w',hrun,k1,k2⟩:=own_writes hS hb h0 hB hin2 hvt
 rw [hlen] at k1
 by_cases hk:n = 0∧A ≠ some ⟨blk,i * sz',none⟩
 ·obtain ⟨rfl,hA'⟩:=hk
  have hz0:vals.take (0 * sz') = []:=by simp
  rw [hz0] at hrun hfirst
  have e1:w' = w:=by
   simp only [storeCells] at hrun
   injection hrun with _ hrun
   exact hrun.symm
  subst e1
  refine ⟨goInt (Nat.min ys.length 0:Nat),w',?_,k1,k2,.int _ _⟩
  rw [show Nat.min ys.length 0 = 0 from Nat.min_zero _] at hfirst ⊢
  cases A with
  | none=>simp [Builtin.copy_,run_underlying hu,Builtin.lenOf,hsize,hfirst]
  | some a=>simp [Builtin.copy_,run_underlying hu,Builtin.lenOf,hsize,hfirst,storeCells]
 ·have hA':A = some ⟨blk,i * sz',none⟩:=by
   rcases hA with h | h
   ·exact Classical.byContradiction fun hn=>hk ⟨h,hn⟩
   ·exact h
  subst hA'
  refine ⟨goInt (Nat.min ys.length n:Nat),w',?_,k1,k2,.int _ _⟩
  simp [Builtin.copy_,run_underlying hu,Builtin.lenOf,hsize,hfirst,hrun]
theorem copyA_run (hS:SR P G N0 w0 I0 S E w) {t t2 ty:TypeId} {x y r:AV} {S':St} {vx vy:Value} (h:copyA P S t x y = some (r,S')) (hx:Rep E w x vx) (hy:Rep E w y vy) :
  ∃ v w',(Builtin.copy_ #[t,t2] ty #[vx,vy]).run P w = .ok v w'∧SR P G N0 w0 I0 S' E w'∧Env.Le E E w w'∧Rep E w' r v:=by
 unfold copyA at h
 split at h
 case h_2=>cases h
 rename_i e sy ys o hu
 split at h
 ·cases hx with | ms _ _ _ blk cap hB=>exact copyTo_run hS hu h hB (.inr (by simp)) hy
 ·cases hx with | mst _ _ _ _ blk cap A hB hA=>exact copyTo_run hS hu h hB hA hy
 ·cases h
set_option maxHeartbeats 2000000 in
theorem op_wp {R:Callee} {C:ICallee} (hR:CalleeOk P G R) (hC:ICalleeOk P G C) (hS:SR P G N0 w0 I0 S E w) {o:Oper} {T:List AV} {a:Act} (hT:TR E w T a.tmps) {r:AV} {S':St} {bid:Nat} (h:opA P R C (evA G T) bid S o.op = some (r,S'))
  {K:Act→World→Prop} {Q:Exit→Act→World→Prop} (hK:∀ E' w' v,SR P G N0 w0 I0 S' E' w'→Env.Le E E' w w'→Rep E' w' r v→K (a.put o.dst v) w'):o.wp P a w K Q:=by
 obtain ⟨dst,op,type,pos,after,guard⟩:=o
 have pure_:∀ {s:Sem Value} {v:Value},execOp a.eval ⟨dst,op,type,pos,after,guard⟩ = (do pure (.value (← s)):Sem Next)→s.run P w = .ok v w→Rep E w r v→S' = S→Oper.wp P ⟨dst,op,type,pos,after,guard⟩ a w K Q:=by
  intro s v he hs hr hSS
  subst hSS
  exact wp_value (by rw [he]; exact run_v hs) (hK E w v hS (Env.Le.refl _ _) hr)
 have full_:∀ {s:Sem Value},execOp a.eval ⟨dst,op,type,pos,after,guard⟩ = (do pure (.value (← s)):Sem Next)→(∃ v w' E',s.run P w = .ok v w'∧SR P G N0 w0 I0 S' E' w'∧Env.Le E E' w w'∧Rep E' w' r v)→Oper.wp P ⟨dst,op,type,pos,after,guard⟩ a w K Q:=by
  intro s he ⟨v,w',E',hs,h1,h2,h3⟩
  exact wp_value (by rw [he]; exact run_v hs) (hK E' w' v h1 h2 h3)
 have opt:∀ {x:Option AV},x.map (·,S) = some (r,S')→x = some r∧S' = S:=by
  intro x hx
  cases x with
  | none=>simp at hx
  | some y=>simp at hx; exact ⟨by rw [hx.1],hx.2.symm⟩
 cases op with
 | move x =>
  simp only [opA,Option.some.injEq,Prod.mk.injEq] at h
  obtain ⟨rfl,rfl⟩:=h
  exact wp_value (v:=a.eval x) rfl (hK E w _ hS (Env.Le.refl _ _) (evA_rep hS.glob hT x))
 | assign x =>
  simp only [opA,Option.some.injEq,Prod.mk.injEq] at h
  obtain ⟨rfl,rfl⟩:=h
  exact wp_value (v:=a.eval x) rfl (hK E w _ hS (Env.Le.refl _ _) (evA_rep hS.glob hT x))
 | pick c x y =>
  simp only [opA] at h
  have hc:=evA_rep hS.glob hT c
  split at h
  ·rename_i t hct
   simp at h
   obtain ⟨rfl,rfl⟩:=h
   rw [hct] at hc
   have hcv:a.eval c = .bool t:=rep_bool hc
   refine wp_value (v:=if t then a.eval x else a.eval y) (by simp [execOp,hcv,asBool]) (hK E w _ hS (Env.Le.refl _ _) ?_)
   cases t
   ·exact evA_rep hS.glob hT y
   ·exact evA_rep hS.glob hT x
  ·cases h
 | alloc t =>
  simp only [opA] at h
  split at h
  ·rename_i z hz
   split at h
   ·rename_i h1
    obtain ⟨hb,rfl,rfl⟩:=newBox_some h
    rw [Bool.and_eq_true,List.all_eq_true] at h1
    obtain ⟨h1,hrow⟩:=h1
    obtain ⟨E',h2,h3,h4⟩:=hS.box_new bid hb (z.cells.toList.map absV0) z.cells t hrow (by simp) (fun i c v hi hv=>⟨absV0_map hi (by simpa using hv),h1 v (by simpa using Array.mem_of_getElem? hv)⟩)
    refine wp_value (v:=.pointer (some ⟨w.heap.size,0,none⟩)) (w':=w.alloc (.cells z.cells t)) ?_ (hK E' _ _ h2 h3 (.ptr _ _ _ h4))
    simp [execOp,Instr.alloc,run_zero hz,newVar,newRow]
   ·cases h
  ·cases h
 | box t x =>
  simp only [opA] at h
  split at h
  ·rename_i hp
   obtain ⟨hb,rfl,rfl⟩:=newBox_some h
   rw [Bool.and_eq_true] at hp
   obtain ⟨hp,hrow⟩:=hp
   have hcr:=(evA_rep hS.glob hT x).cr hp
   obtain ⟨E',h2,h3,h4⟩:=hS.box_new bid hb _ _ t hrow hcr.1 hcr.2
   refine wp_value (v:=.pointer (some ⟨w.heap.size,0,none⟩)) (w':=w.alloc (.cells (a.eval x).cells t)) ?_ (hK E' _ _ h2 h3 (.ptr _ _ _ h4))
   simp [execOp,Instr.box,newVar,newRow]
  ·cases h
 | build t parts =>
  simp only [opA] at h
  obtain ⟨hA,hE⟩:=opt h
  subst hE
  obtain ⟨v,hv,hr⟩:=buildA_run hA (parts_rep hS hT parts)
  exact pure_ (s:=Instr.build t (parts.map fun p=>(p.1,a.eval p.2))) rfl hv hr rfl
 | buildSlice t n parts =>
  simp only [opA] at h
  obtain ⟨hA,hE⟩:=opt h
  subst hE
  exact full_ (s:=Instr.buildSlice t n (parts.map fun p=>(p.1,a.eval p.2))) rfl (buildSliceA_run hS hA (parts_rep hS hT parts))
 | load t x =>
  simp only [opA] at h
  obtain ⟨hA,hE⟩:=opt h
  subst hE
  obtain ⟨v,hv,hr⟩:=loadA_run hS hA (evA_rep hS.glob hT x)
  exact pure_ rfl hv hr rfl
 | store t x y =>
  simp only [opA] at h
  cases hs:storeA P S t (evA G T x) (evA G T y) with
  | none=>simp [hs] at h
  | some S1 =>
   simp [hs] at h
   obtain ⟨rfl,rfl⟩:=h
   obtain ⟨w',hw,h1,h2⟩:=storeA_run hS hs (evA_rep hS.glob hT x) (evA_rep hS.glob hT y)
   exact wp_skip' (w':=w') (run_u hw) (hK E w' undef h1 h2 rep_undef)
 | nilCheck x =>
  simp only [opA] at h
  have hx:=evA_rep hS.glob hT x
  split at h
  ·rename_i b o he
   simp at h
   obtain ⟨rfl,rfl⟩:=h
   rw [he] at hx
   obtain ⟨blk,hxv,_⟩:=rep_ptr hx
   exact wp_value (v:=a.eval x) (by simp [execOp,hxv]) (hK E w _ hS (Env.Le.refl _ _) hx)
  ·rename_i sz es i j he
   simp at h
   obtain ⟨rfl,rfl⟩:=h
   rw [he] at hx
   obtain ⟨p,hxv⟩:=rep_elt hx
   exact wp_value (v:=a.eval x) (by simp [execOp,hxv]) (hK E w _ hS (Env.Le.refl _ _) hx)
  ·rename_i b sz i j he
   simp at h
   obtain ⟨rfl,rfl⟩:=h
   rw [he] at hx
   obtain ⟨p,hxv⟩:∃ p,a.eval x = .pointer (some p):=by
    generalize a.eval x = v at hx
    cases hx; exact ⟨_,rfl⟩
   exact wp_value (v:=a.eval x) (by simp [execOp,hxv]) (hK E w _ hS (Env.Le.refl _ _) hx)
  ·rename_i f cap he
   simp at h
   obtain ⟨rfl,rfl⟩:=h
   rw [he] at hx
   obtain ⟨vs,hxv,_⟩:=rep_fn hx
   exact wp_value (v:=a.eval x) (by simp [execOp,hxv]) (hK E w _ hS (Env.Le.refl _ _) hx)
  ·cases h
 | makeFunc fn first captured =>
  simp only [opA] at h
  split at h
  ·rename_i f hf
   simp at h
   obtain ⟨rfl,rfl⟩:=h
   obtain rfl:first = #[]:=by simpa using hf
   exact wp_value (v:=.func (.func f) #[] (captured.map a.eval)) (by simp [execOp,Instr.makeFunc]) (hK E w _ hS (Env.Le.refl _ _) (.fn f _ _ (by simp) (map_rep hS hT captured)))
  ·cases h
 | binOp op t x y yt =>
  simp only [opA] at h
  obtain ⟨hA,hE⟩:=opt h
  subst hE
  obtain ⟨v,hv,hr⟩:=binA_run (ox:=x) (oy:=y) (fun h=>h) hA (evA_rep hS.glob hT x) (evA_rep hS.glob hT y)
  exact pure_ rfl hv hr rfl
 | unOp op t x =>
  simp only [opA] at h
  obtain ⟨hA,hE⟩:=opt h
  subst hE
  obtain ⟨v,hv,hr⟩:=unA_run (P:=P) hA (evA_rep hS.glob hT x)
  exact pure_ rfl hv hr rfl
 | convert src dst' x =>
  simp only [opA] at h
  obtain ⟨hA,hE⟩:=opt h
  subst hE
  exact full_ rfl (convertA_run hS hA (evA_rep hS.glob hT x))
 | slice t x lo hi mx =>
  simp only [opA] at h
  obtain ⟨hA,hE⟩:=opt h
  subst hE
  have key:∀ (z:Option Operand),(∀ b,z.map (evA G T) = some b→∃ v,z.map a.eval = some v∧Rep E w b v)∧(z.map (evA G T) = none→z.map a.eval = none):=fun z=>by
   cases z with
   | none=>simp
   | some z=>exact ⟨fun b hb=>by simp at hb; subst hb; exact ⟨_,rfl,evA_rep hS.glob hT z⟩,fun e=>by simp at e⟩
  obtain ⟨v,hv,hr⟩:=sliceA_run (P:=P) (key lo).1 (key lo).2 (key hi).1 (key hi).2 (key mx).1 (key mx).2 hA (evA_rep hS.glob hT x)
  exact pure_ rfl hv hr rfl
 | fieldAddr s x f =>
  simp only [opA] at h
  obtain ⟨hA,hE⟩:=opt h
  subst hE
  obtain ⟨v,hv,hr⟩:=fieldAddrA_run hA (evA_rep hS.glob hT x)
  exact pure_ rfl hv hr rfl
 | indexAddr t x i =>
  simp only [opA] at h
  obtain ⟨hA,hE⟩:=opt h
  subst hE
  obtain ⟨v,hv,hr⟩:=indexAddrA_run hA (evA_rep hS.glob hT x) (evA_rep hS.glob hT i)
  exact pure_ rfl hv hr rfl
 | index t x i =>
  simp only [opA] at h
  obtain ⟨hA,hE⟩:=opt h
  subst hE
  obtain ⟨v,hv,hr⟩:=indexA_run hA (evA_rep hS.glob hT x) (evA_rep hS.glob hT i)
  exact pure_ rfl hv hr rfl
 | extract t i =>
  simp only [opA] at h
  have hx:=evA_rep hS.glob hT t
  split at h
  ·rename_i vs he
   obtain ⟨hA,hE⟩:=opt h
   subst hE
   rw [he] at hx
   obtain ⟨us,hxv,hn,hc⟩:=rep_tup hx
   have hlt:i < us.size:=by
    have:=(List.getElem?_eq_some_iff.1 hA).1
    omega
   exact pure_ (s:=Instr.extract (a.eval t) i) (v:=us[i]) rfl (by simp [Instr.extract,hxv,hlt]) (hc i r _ hA (Array.getElem?_eq_getElem hlt)) rfl
  ·cases h
 | range t x =>
  simp only [opA] at h
  exact full_ rfl (rangeA_run hS h (evA_rep hS.glob hT x))
 | next it s =>
  simp only [opA] at h
  exact full_ rfl (nextA_run hS h (evA_rep hS.glob hT it))
 | makeMap t r =>
  cases r with
  | some r=>simp [opA] at h
  | none =>
   simp only [opA,Option.isNone_none,if_true] at h
   exact full_ rfl (makeMapA_run hS h)
 | lookup t x k ok =>
  simp only [opA] at h
  obtain ⟨hA,hE⟩:=opt h
  subst hE
  obtain ⟨v,hv,hr⟩:=lookupA_run hS hA (evA_rep hS.glob hT x) (evA_rep hS.glob hT k)
  exact pure_ rfl hv hr rfl
 | mapUpdate t x k u =>
  simp only [opA,Option.map_eq_some_iff] at h
  obtain ⟨S2,hA,hE⟩:=h
  injection hE with h1 h2
  subst h1; subst h2
  obtain ⟨w',hrun,hS',hle⟩:=updateA_run hS hA (evA_rep hS.glob hT x) (evA_rep hS.glob hT k) (evA_rep hS.glob hT u)
  exact wp_skip' (w':=w') (run_u hrun) (hK E w' undef hS' hle rep_undef)
 | makeSlice t l c =>
  simp only [opA] at h
  exact full_ rfl (makeSliceA_run hS h (evA_rep hS.glob hT l) (evA_rep hS.glob hT c))
 | call c =>
  obtain ⟨callee,args,argTypes⟩:=c
  simp only [opA] at h
  split at h
  ·split at h
   ·rename_i t x ht hx
    obtain ⟨hA,hE⟩:=opt h
    subst hE
    obtain rfl:argTypes = #[t]:=by rw [← Array.toArray_toList (xs:=argTypes),ht]
    obtain rfl:args = #[x]:=by rw [← Array.toArray_toList (xs:=args),hx]
    obtain ⟨v,hv,hr⟩:=lenA_run (ty:=type) hA (evA_rep hS.glob hT x)
    exact wp_value (v:=v) (by simp [execOp,resolve,invoke,builtin,hv]) (hK E w v hS (Env.Le.refl _ _) hr)
   ·cases h
  ·split at h
   ·rename_i x y hx
    obtain ⟨hA,hE⟩:=opt h
    subst hE
    obtain rfl:args = #[x,y]:=by rw [← Array.toArray_toList (xs:=args),hx]
    obtain ⟨v,hv,hr⟩:=maxA_run (P:=P) (tys:=argTypes) (ty:=type) hA (evA_rep hS.glob hT x) (evA_rep hS.glob hT y)
    exact wp_value (v:=v) (by simp [execOp,resolve,invoke,builtin,hv]) (hK E w v hS (Env.Le.refl _ _) hr)
   ·cases h
  ·split at h
   ·rename_i x y hx
    obtain ⟨hA,hE⟩:=opt h
    subst hE
    obtain rfl:args = #[x,y]:=by rw [← Array.toArray_toList (xs:=args),hx]
    obtain ⟨v,hv,hr⟩:=minA_run (P:=P) (tys:=argTypes) (ty:=type) hA (evA_rep hS.glob hT x) (evA_rep hS.glob hT y)
    exact wp_value (v:=v) (by simp [execOp,resolve,invoke,builtin,hv]) (hK E w v hS (Env.Le.refl _ _) hr)
   ·cases h
  ·split at h
   ·rename_i t tx x y ht hx
    obtain rfl:argTypes = #[t,tx]:=by rw [← Array.toArray_toList (xs:=argTypes),ht]
    obtain rfl:args = #[x,y]:=by rw [← Array.toArray_toList (xs:=args),hx]
    obtain ⟨v,w',E',hv,h1,h2,h3⟩:=appendA_run (ty:=type) hS h (evA_rep hS.glob hT x) (evA_rep hS.glob hT y)
    exact wp_value (v:=v) (by simp [execOp,resolve,invoke,builtin,hv]) (hK E' w' v h1 h2 h3)
   ·cases h
  ·split at h
   ·rename_i t t2 x y ht hx
    split at h
    ·rename_i hkk
     simp only [Option.map_eq_some_iff] at h
     obtain ⟨S2,hA,hE⟩:=h
     injection hE with h1 h2
     subst h1; subst h2
     obtain rfl:argTypes = #[t,t2]:=by rw [← Array.toArray_toList (xs:=argTypes),ht]
     obtain rfl:args = #[x,y]:=by rw [← Array.toArray_toList (xs:=args),hx]
     obtain ⟨w',hrun,hS',hle⟩:=deleteA_run (ty:=type) hS hA (fun k e hk=>by rw [hk] at hkk; simpa using hkk.symm) (evA_rep hS.glob hT x) (evA_rep hS.glob hT y)
     exact wp_value (v:=.tuple #[]) (by simp [execOp,resolve,invoke,builtin,hrun]) (hK E w' _ hS' hle (.tup [] #[] rfl fun i c v h=>by simp at h))
    ·cases h
   ·cases h
  ·split at h
   ·rename_i t x ht hx
    simp only [Option.map_eq_some_iff] at h
    obtain ⟨S2,hA,hE⟩:=h
    injection hE with h1 h2
    subst h1; subst h2
    obtain rfl:argTypes = #[t]:=by rw [← Array.toArray_toList (xs:=argTypes),ht]
    obtain rfl:args = #[x]:=by rw [← Array.toArray_toList (xs:=args),hx]
    obtain ⟨w',hrun,hS',hle⟩:=clearA_run (ty:=type) hS hA (evA_rep hS.glob hT x)
    exact wp_value (v:=.tuple #[]) (by simp [execOp,resolve,invoke,builtin,hrun]) (hK E w' _ hS' hle (.tup [] #[] rfl fun i c v h=>by simp at h))
   ·cases h
  ·split at h
   ·rename_i t t2 x y ht hx
    obtain rfl:argTypes = #[t,t2]:=by rw [← Array.toArray_toList (xs:=argTypes),ht]
    obtain rfl:args = #[x,y]:=by rw [← Array.toArray_toList (xs:=args),hx]
    obtain ⟨v,w',hrun,hS',hle,hr⟩:=copyA_run (t2:=t2) (ty:=type) hS h (evA_rep hS.glob hT x) (evA_rep hS.glob hT y)
    exact wp_value (v:=v) (by simp [execOp,resolve,invoke,builtin,hrun]) (hK E w' _ hS' hle hr)
   ·cases h
  ·rename_i f
   have hf:=evA_rep hS.glob hT f
   split at h
   ·rename_i g cap he
    rw [he] at hf
    obtain ⟨caps,hfv,hcn,hcr⟩:=rep_fn hf
    have hcall:=callG_wp hR hC hS (vs:=args.map a.eval ++ caps) (by simp [hcn]) (fun i c v hi hv=>by
     by_cases hlt:i < args.size
     ·rw [List.getElem?_append_left (by simpa using hlt)] at hi
      rw [Array.getElem?_append_left (by simpa using hlt)] at hv
      exact map_rep hS hT args i c v hi hv
     ·rw [List.getElem?_append_right (by simp; omega)] at hi
      rw [Array.getElem?_append_right (by simp; omega)] at hv
      exact hcr _ c v hi (by simpa using hv)) h
    unfold Oper.wp
    rcases hcall with ⟨hg,hcall⟩ | ⟨v,w',hrun,v',E',he',h1,h2,h3⟩
    ·have hrun:(execOp a.eval ⟨dst,.call ⟨.value f,args,argTypes⟩,type,pos,after,guard⟩).run P w = .ok (.enter g (args.map a.eval ++ caps)) w:=by
      simp [execOp,resolve,hfv,Deferred.ofValue,invoke,run_callFunc hg]
     rw [hrun]
     refine hcall.mono fun e w' ⟨v,E',he',h1,h2,h3⟩=>?_
     subst he'
     exact hK E' w' v h1 h2 h3
    ·injection he' with he'
     subst he'
     have hrun:(execOp a.eval ⟨dst,.call ⟨.value f,args,argTypes⟩,type,pos,after,guard⟩).run P w = .ok (.value v) w':=by
      simp [execOp,resolve,hfv,Deferred.ofValue,invoke,hrun]
     rw [hrun]
     exact hK E' w' v h1 h2 h3
   ·cases h
  ·cases h
 | _=>simp [opA] at h
end
def AV.kc:AV→Bool
 | .sl _ _ (.tok _)=>true
 | v=>v.closed
def AV.kc1:AV→Bool
 | .agg cs=>cs.all AV.kc
 | v=>v.kc
def AV.kc2:AV→Bool
 | .tup vs=>vs.all AV.kc1
 | v=>v.kc1
theorem Rep.rebB0 {E:Env} {w:World} {a:AV} {v:Value} (h:Rep E w a v) (hc:a.kc = true) (B:Nat→Option Nat):Rep ⟨E.I,B,E.K⟩ w a v:=by
 unfold AV.kc at hc
 split at hc
 ·cases h with
  | sl sz es o A cap u hcap hmax hA hsz hcl ho hr h1 =>
   exact .sl _ _ _ A cap u hcap hmax hA hsz hcl ho (fun i e j c hi hj=>(hr i e j c hi hj).rebase (closed_closed1 (closed1_cells (hcl e (List.mem_of_getElem? hi)) hj)) B E.K) h1
 ·exact h.rebase (closed_closed1 hc) B E.K
theorem Rep.rebB1 {E:Env} {w:World} {a:AV} {v:Value} (h:Rep E w a v) (hc:a.kc1 = true) (B:Nat→Option Nat):Rep ⟨E.I,B,E.K⟩ w a v:=by
 unfold AV.kc1 at hc
 split at hc
 ·cases h with
  | agg _ vs hn h1 hr=>exact .agg _ vs hn h1 fun i c v hi hv=>(hr i c v hi hv).rebB0 (List.all_eq_true.1 hc c (List.mem_of_getElem? hi)) B
 ·exact h.rebB0 hc B
theorem Rep.rebB2 {E:Env} {w:World} {a:AV} {v:Value} (h:Rep E w a v) (hc:a.kc2 = true) (B:Nat→Option Nat):Rep ⟨E.I,B,E.K⟩ w a v:=by
 unfold AV.kc2 at hc
 split at hc
 ·cases h with
  | tup _ vs hn hr=>exact .tup _ vs hn fun i c v hi hv=>(hr i c v hi hv).rebB1 (List.all_eq_true.1 hc c (List.mem_of_getElem? hi)) B
 ·exact h.rebB1 hc B
section
variable {P : Program} {G : Glob} {E : Env} {w : World}
theorem rep_elt_rebase {sz i j:Nat} {es:List AV} {v:Value} (h:Rep E w (.elt sz es i j) v) (B:Nat→Option Nat) (K:Nat→Nat→Value→Prop):Rep ⟨E.I,B,K⟩ w (.elt sz es i j) v:=by
 cases h with | elt _ _ _ _ b off u hcl hA hr h1 =>
 exact .elt sz es i j b off u hcl hA (fun i e j c hi hj=>(hr i e j c hi hj).rebase (closed_closed1 (closed1_cells (hcl e (List.mem_of_getElem? hi)) hj)) _ _) h1
end
section
variable {P : Program} {G : Glob}
theorem SR.framed {N0:Nat→Prop} {w0:World} {I0:Nat→Nat→Prop} {S:St} {E:Env} {w:World} (hS:SR P G N0 w0 I0 S E w) :
  SR P G (fun b=>N0 b∨∃ id,E.B id = some b) w E.I ⟨[],S.live⟩ ⟨E.I,fun _=>none,E.K⟩ w:=by
 refine ⟨BelowQ.refl _ _,fun b hb=>?_,hS.Ilt,fun b o h _=>h,fun id b h=>(nomatch h),fun id id' b h=>(nomatch h),fun id cs h=>(nomatch h),fun g e hg=>⟨(hS.glob g e hg).1,rep_elt_rebase (hS.glob g e hg).2.1 _ _,(hS.glob g e hg).2.2⟩,fun id h=>(nomatch h),hS.Klt,hS.Kblk,fun t n e ht=>?_⟩
 ·rcases hb with hb | ⟨id,hb⟩
  ·exact hS.n0 b hb
  ·exact (hS.Blt id b hb).2.2.1
 ·obtain ⟨v,xs,sz,h1,h2,h3,h4,h5⟩:=hS.live t n e ht
  refine ⟨v,xs,sz,h1,⟨h2.1,fun g hg hq=>?_⟩,h3,h4,fun g hg=>⟨(h5 g hg).1,fun id h=>(nomatch h),(h5 g hg).2.2⟩⟩
  rcases hq with hq | ⟨id,hq⟩
  ·exact h2.2 g hg hq
  ·exact (h5 g hg).2.1 id hq
theorem SR.unframed {N0:Nat→Prop} {w0:World} {I0:Nat→Nat→Prop} {S:St} {E E1:Env} {w w':World} {l:List (Nat × TypeId)} (hS:SR P G N0 w0 I0 S E w)
  (h1:SR P G (fun b=>N0 b∨∃ id,E.B id = some b) w E.I ⟨[],l⟩ E1 w') (hI:∀ b o,E.I b o→E1.I b o∧w'.cell? ⟨b,o,none⟩ = w.cell? ⟨b,o,none⟩) (hK:∀ t n v,E.K t n v→E1.K t n v) :
  SR P G N0 w0 I0 { S with live:=l } ⟨E1.I,E.B,E1.K⟩ w'∧Env.Le E ⟨E1.I,E.B,E1.K⟩ w w':=by
 have hblk:∀ id b,E.B id = some b→w'.heap[b]? = w.heap[b]?:=fun id b hb=>h1.below.block b (.inr ⟨id,hb⟩)
 have hle:Env.Le E ⟨E1.I,E.B,E1.K⟩ w w':=⟨hI,fun _ _ h=>h,hK,fun id x hx=>rowsOf_block (hblk id x hx)⟩
 refine ⟨⟨hS.below.trans (h1.below.mono fun _ h=>.inl h),fun b hb=>Nat.lt_of_lt_of_le (hS.n0 b hb) h1.below.size,h1.Ilt,fun b o hi hb=>hS.Iold b o (h1.Iold b o hi (.inl hb)) hb,fun id b hb=>?_,hS.Binj,fun id cs hi=>?_,hS.glob.le hle,hS.hole,h1.Klt,h1.Kblk,fun t n e ht=>?_⟩,hle⟩
 ·obtain ⟨a1,a2,a3,a4⟩:=hS.Blt id b hb
  exact ⟨a1,a2,Nat.lt_of_lt_of_le a3 h1.below.size,fun o ho=>a4 o (h1.Iold b o ho (.inr ⟨id,hb⟩))⟩
 ·obtain ⟨blk,hB,hx⟩:=hS.box id cs hi
  exact ⟨blk,hB,hx.le (hblk id blk hB) hle⟩
 ·obtain ⟨v,xs,sz,k1,k2,k3,k4,k5⟩:=h1.live t n e ht
  exact ⟨v,xs,sz,k1,⟨k2.1,fun g hg hq=>k2.2 g hg (.inl hq)⟩,k3,k4,fun g hg=>⟨(k5 g hg).1,fun id hid=>k2.2 g hg (.inr ⟨id,hid⟩),(k5 g hg).2.2⟩⟩
def locC (C:ICallee):ICallee:=fun f args S =>
 if args.all AV.kc2 then
  match C f args ⟨[],S.live⟩ with
  | some (r,S')=>if S'.boxes.isEmpty && r.kc2 then some (r,{ S with live:=S'.live }) else none
  | none=>none
 else none
theorem locC_ok {C:ICallee} (hC:ICalleeOk P G C):ICalleeOk P G (locC C):=by
 intro f args S r S' h
 unfold locC at h
 split at h
 case isFalse=>cases h
 rename_i hak
 split at h
 case h_2=>cases h
 rename_i r1 S1 hx
 split at h
 case isFalse=>cases h
 rename_i hc
 simp only [Bool.and_eq_true] at hc
 obtain ⟨hb,hr⟩:=hc
 injection h with h
 injection h with h1 h2
 subst h1; subst h2
 obtain ⟨b1,l1⟩:=S1
 simp only [List.isEmpty_iff] at hb
 subst hb
 obtain ⟨hg,hcall⟩:=hC f args _ _ _ hx
 have hak:=List.all_eq_true.1 hak
 refine ⟨hg,fun N0 w0 I0 E w vs hS hn hv=>(hcall _ w E.I _ w vs hS.framed hn fun i c v hi hv'=>(hv i c v hi hv').rebB2 (hak c (List.mem_of_getElem? hi)) _).mono fun e w' ⟨v,E1,he,h1,h2,h3⟩=>?_⟩
 obtain ⟨j1,j2⟩:=hS.unframed h1 (fun b o hi=>h2.I b o hi) (fun t n v hk=>h2.K t n v hk)
 exact ⟨v,_,he,j1,j2,h3.rebB2 hr _⟩
def LocC (C:ICallee):Prop:=∀ f args S S2,S2.live = S.live→match C f args S with
 | some (r,S1)=>S1 = { S with live:=S1.live }∧C f args S2 = some (r,{ S2 with live:=S1.live })
 | none=>C f args S2 = none
theorem noC_loc:LocC noC:=fun _f _args _S _S2 _=>rfl
theorem locC_loc (C:ICallee):LocC (locC C):=by
 intro f args S S2 h
 unfold locC
 rw [h]
 cases args.all AV.kc2 with
 | false=>rfl
 | true =>
  simp only [if_true]
  cases C f args ⟨[],S.live⟩ with
  | none=>rfl
  | some x =>
   obtain ⟨r,S'⟩:=x
   simp only
   cases S'.boxes.isEmpty && r.kc2 with
   | false=>rfl
   | true=>exact ⟨rfl,rfl⟩
end
def isAlloc:Op→Bool
 | .alloc _ | .box .. | .range .. | .makeMap ..=>true
 | _=>false
def putA (T:List AV) (d:Option Tmp) (r:AV):List AV:=
 match d with
 | some d=>T.set d r
 | none=>T
def guardA (ops:List Oper) (T:List AV) (o:Oper):Option Bool:=
 match o.guard with
 | none=>some true
 | some (j,want) =>
  match (ops[j]?).bind (·.dst) with
  | none=>some false
  | some t =>
   match T[t]? with
   | some (.bool b)=>some (b == want)
   | some (.tup [])=>some false
   | some _=>none
   | none=>some false
def stepA (P:Program) (G:Glob) (R:Callee) (C:ICallee) (ops:List Oper) (bid:Nat) (o:Oper) (T:List AV) (S:St):Option (AV × St):=
 match guardA ops T o with
 | some true=>opA P R C (evA G T) bid S o.op
 | some false=>some (.tup [],S)
 | none=>none
def nextBid (o:Oper) (bid:Nat):Nat:=if isAlloc o.op then bid + 1 else bid
def listA (P:Program) (G:Glob) (R:Callee) (C:ICallee) (ops:List Oper):List Oper→Nat→List AV→St→Option (List AV × St)
 | [],_,T,S=>some (T,S)
 | o :: l,bid,T,S =>
  match stepA P G R C ops bid o T S with
  | some (r,S')=>listA P G R C ops l (nextBid o bid) (putA T o.dst r) S'
  | none=>none
def roomFor (ops:List Oper) (S:St):St:=
 match ops.countP fun o=>isAlloc o.op with
 | 0=>S
 | k=>{ S with boxes:=S.boxes ++ List.replicate k none }
section
variable {P : Program} {E : Env} {w w' : World} {G : Glob} {N0 : Nat → Prop} {w0 : World} {I0 : Nat → Nat → Prop} {S : St}
theorem SR.roomFor (h:SR P G N0 w0 I0 S E w) (ops:List Oper):SR P G N0 w0 I0 (roomFor ops S) E w:=by
 unfold Abs.roomFor
 split
 ·exact h
 ·exact h.room _
theorem rep_tup_nil {v:Value} (h:Rep E w (.tup []) v):v = undef:=by
 obtain ⟨vs,rfl,hn,_⟩:=rep_tup h
 obtain rfl:vs = #[]:=by simpa using hn
 rfl
theorem guardA_run {ops:List Oper} {T:List AV} {tm:Array Value} {o:Oper} {g:Bool} (h:guardA ops T o = some g)
  (hT:T.length = tm.size) (hr:∀ j want t c v,o.guard = some (j,want)→(ops[j]?).bind (·.dst) = some t→T[t]? = some c→tm[t]? = some v→Rep E w c v) :
  Region.wanted o (yielded ops.toArray tm) = g:=by
 unfold guardA at h
 unfold Region.wanted
 split at h
 ·rename_i hg
  simp at h; subst h
  simp [hg]
 ·rename_i j want hg
  simp only [hg]
  unfold yielded
  simp only [List.getElem?_toArray]
  split at h
  ·rename_i hd
   simp at h; subst h
   simp [hd]
  ·rename_i t hd
   simp only [hd,Option.bind_some]
   cases hv:tm[t]? with
   | none =>
    have hle:T.length≤t:=by rw [hT]; exact Array.getElem?_eq_none_iff.1 hv
    rw [List.getElem?_eq_none hle] at h
    simp at h; subst h; rfl
   | some v =>
    have hlt:t < T.length:=by rw [hT]; exact (Array.getElem?_eq_some_iff.1 hv).1
    have hrep:=hr j want t T[t] v hg hd (List.getElem?_eq_getElem hlt) hv
    rw [List.getElem?_eq_getElem hlt] at h
    split at h
    ·rename_i b hb
     injection hb with hb
     rw [hb] at hrep
     simp at h; subst h
     rw [rep_bool hrep]
     cases b <;> cases want <;> rfl
    ·rename_i hb
     injection hb with hb
     rw [hb] at hrep
     simp at h; subst h
     rw [rep_tup_nil hrep]
     rfl
    ·cases h
    ·rename_i hb; cases hb
theorem TR.putA {T:List AV} {a:Act} (h:TR E w T a.tmps) (d:Option Tmp) {r:AV} {v:Value} (hr:Rep E w r v):TR E w (putA T d r) (a.put d v).tmps:=by
 have:=h.put d hr
 unfold Abs.putA
 cases d <;> exact this
theorem put_defers (a:Act) (d:Option Tmp) (v:Value):(a.put d v).defers = a.defers:=by cases d <;> rfl
theorem listA_wp {R:Callee} {C:ICallee} (hR:CalleeOk P G R) (hC:ICalleeOk P G C) {ops:List Oper} {Q:Exit→Act→World→Prop}:∀ (l:List Oper) (bid:Nat) (T T':List AV) (S S':St) (E:Env) (a:Act) (w:World),
  SR P G N0 w0 I0 S E w→TR E w T a.tmps→listA P G R C ops l bid T S = some (T',S') →
  (∀ E' w' a',SR P G N0 w0 I0 S' E' w'→Env.Le E E' w w'→TR E' w' T' a'.tmps→a'.defers = a.defers→Q .normal a' w')→wpList P ops.toArray Q l a w
 | [],bid,T,T',S,S',E,a,w,hS,hT,h,hQ=>by
  simp only [listA,Option.some.injEq,Prod.mk.injEq] at h
  obtain ⟨rfl,rfl⟩:=h
  exact hQ E w a hS (Env.Le.refl _ _) hT rfl
 | o :: l,bid,T,T',S,S',E,a,w,hS,hT,h,hQ=>by
  simp only [listA] at h
  split at h
  ·rename_i r S1 hs
   unfold stepA at hs
   split at hs
   ·rename_i hg
    have hw:=guardA_run hg hT.1 (fun j want t c v _ _ hc hv=>hT.2 t c v hc hv)
    simp only [wpList,hw,if_true]
    refine .inl (op_wp hR hC hS hT hs fun E' w' v h1 h2 h3=>?_)
    exact listA_wp hR hC l _ _ T' S1 S' E' _ w' h1 ((hT.le h2).putA o.dst h3) h fun E2 w2 a2 k1 k2 k3 k4=>hQ E2 w2 a2 k1 (h2.trans k2) k3 (k4.trans (put_defers _ _ _))
   ·rename_i hg
    have hw:=guardA_run hg hT.1 (fun j want t c v _ _ hc hv=>hT.2 t c v hc hv)
    simp only [wpList,hw,Bool.false_eq_true,if_false]
    simp at hs
    obtain ⟨rfl,rfl⟩:=hs
    exact listA_wp hR hC l _ _ T' _ S' E _ w hS (hT.putA o.dst rep_undef) h fun E2 w2 a2 k1 k2 k3 k4=>hQ E2 w2 a2 k1 k2 k3 (k4.trans (put_defers _ _ _))
   ·cases hs
  ·cases h
end
abbrev Loc:=Option Nat
def Agree (loc:Loc) (S S':St):Prop:=
 match loc with
 | none=>S.live = S'.live
 | some id=>S.boxes[id]? = S'.boxes[id]?
def boxOf:AV→List Loc
 | .ptr b _=>[some b]
 | .ms b _ _=>[some b]
 | .mp b=>[some b]
 | .mel b _ _ _=>[some b]
 | .mst b _ _ _=>[some b]
 | _=>[]
def touchA (ρ:Operand→AV) (bid:Nat) (eff:Bool):Op→List Loc
 | .alloc _ | .box .. | .range .. | .makeMap ..=>[some bid]
 | .lookup _ x _ _=>boxOf (ρ x)
 | .mapUpdate _ x _ _=>boxOf (ρ x)
 | .next it _=>boxOf (ρ it)
 | .load _ a=>boxOf (ρ a)
 | .store _ a _=>boxOf (ρ a)
 | .makeSlice ..=>[none]
 | .call c =>
  match c.callee with
  | .builtin .append=>[none]
  | .builtin .delete =>
   match c.args.toList with
   | [x,_]=>boxOf (ρ x)
   | _=>[]
  | .builtin .clear =>
   match c.args.toList with
   | [x]=>boxOf (ρ x)
   | _=>[]
  | .builtin .copy =>
   match c.args.toList with
   | [x,_]=>boxOf (ρ x)
   | _=>[]
  | .value _=>if eff then [none] else []
  | _=>[]
 | _=>[]
def writeA (ρ:Operand→AV) (bid:Nat) (eff:Bool):Op→List Loc
 | .load .. | .lookup ..=>[]
 | op=>touchA ρ bid eff op
def effA (S S':St):Bool:=S'.live.length != S.live.length
section
variable {P : Program}
theorem opA_congr {R:Callee} {C:ICallee} {ρ ρ':Operand→AV} {bid:Nat} {S:St} {op:Op} (h:∀ x ∈ op.operands,ρ x = ρ' x):opA P R C ρ bid S op = opA P R C ρ' bid S op:=by
 have pairs:∀ ps:Array (Nat × Operand),(∀ x ∈ (ps.toList.map (·.2)).toArray,ρ x = ρ' x)→(ps.toList.map fun p=>(p.1,ρ p.2)) = ps.toList.map fun p=>(p.1,ρ' p.2):=fun ps hp =>
  List.map_congr_left fun p hm=>by rw [hp p.2 (by simp; exact ⟨p.1,by simpa using hm⟩)]
 cases op <;> simp only [Op.operands] at h <;> simp only [opA]
 case build t ps=>rw [pairs ps h]
 case buildSlice t n ps=>rw [pairs ps h]
 case call c =>
  obtain ⟨callee,args,tys⟩:=c
  have ha:∀ x ∈ args,ρ x = ρ' x:=fun x hx=>h x (by simp [Call.operands,hx])
  have hm:args.toList.map ρ = args.toList.map ρ':=List.map_congr_left fun x hx=>ha x (by simpa using hx)
  cases callee with
  | builtin b =>
   cases b <;> simp only
   case len =>
    split
    ·rename_i t x _ hx
     rw [ha x (by rw [← Array.mem_toList_iff,hx]; simp)]
    ·rfl
   case max =>
    split
    ·rename_i x y hx
     rw [ha x (by rw [← Array.mem_toList_iff,hx]; simp),ha y (by rw [← Array.mem_toList_iff,hx]; simp)]
    ·rfl
   case min =>
    split
    ·rename_i x y hx
     rw [ha x (by rw [← Array.mem_toList_iff,hx]; simp),ha y (by rw [← Array.mem_toList_iff,hx]; simp)]
    ·rfl
   case append =>
    split
    ·rename_i t tx x y _ hx
     rw [ha x (by rw [← Array.mem_toList_iff,hx]; simp),ha y (by rw [← Array.mem_toList_iff,hx]; simp)]
    ·rfl
   case delete =>
    split
    ·rename_i t tx x y _ hx
     rw [ha x (by rw [← Array.mem_toList_iff,hx]; simp),ha y (by rw [← Array.mem_toList_iff,hx]; simp)]
    ·rfl
   case clear =>
    split
    ·rename_i t x _ hx
     rw [ha x (by rw [← Array.mem_toList_iff,hx]; simp)]
    ·rfl
   case copy =>
    split
    ·rename_i t tx x y _ hx
     rw [ha x (by rw [← Array.mem_toList_iff,hx]; simp),ha y (by rw [← Array.mem_toList_iff,hx]; simp)]
    ·rfl
  | value f =>
   have hf:ρ f = ρ' f:=h f (by simp [Call.operands])
   simp only [hf,hm]
  | invoke r m=>rfl
 case makeFunc fn first captured =>
  have hm:captured.toList.map ρ = captured.toList.map ρ':=List.map_congr_left fun x hx=>h x (by simp; exact .inr (by simpa using hx))
  rw [hm]
 case slice t x lo hi mx=>cases lo <;> cases hi <;> cases mx <;> simp_all
 all_goals first | rfl | (simp_all; done)
theorem Agree.refl (loc:Loc) (S:St):Agree loc S S:=by cases loc <;> rfl
theorem appendA_local {S S1 S2:St} {t tx:TypeId} {x y r:AV} (h:appendA P S t tx x y = some (r,S1)) (hl:S2.live = S.live) :
  ∃ l,S1 = { S with live:=l }∧appendA P S2 t tx x y = some (r,{ S2 with live:=l }):=by
 obtain ⟨b,l⟩:=S
 obtain ⟨b2,l2⟩:=S2
 simp only at hl; subst hl
 unfold appendA at h ⊢
 split at h
 ·rename_i e hu
  split at h
  ·rename_i i sz es o hi
   split at h
   ·rename_i hc
    split at h
    ·rename_i ys hys
     split at h
     ·rename_i hr
      simp only [hc,hr,and_self,if_true]
      split at h
      ·rename_i hn
       simp only [Option.some.injEq,Prod.mk.injEq] at h
       obtain ⟨rfl,rfl⟩:=h
       exact ⟨l2,rfl,by simp [hn]⟩
      ·rename_i hn
       simp only [hn,if_false]
       generalize o.weak = ow at h ⊢
       cases ow with
       | full =>
        simp only [Option.some.injEq,Prod.mk.injEq] at h
        obtain ⟨rfl,rfl⟩:=h
        exact ⟨_,rfl,rfl⟩
       | no=>simp at h
       | nil=>simp at h
       | tok k =>
        simp only at h ⊢
        split at h
        ·rename_i n e' hk
         split at h
         ·rename_i hc2
          simp only [Option.some.injEq,Prod.mk.injEq] at h
          obtain ⟨rfl,rfl⟩:=h
          exact ⟨_,rfl,by simp only [hc2,and_self,if_true]⟩
         ·cases h
        ·cases h
     ·cases h
    ·cases h
   ·cases h
  ·cases h
 ·cases h
theorem makeSliceA_local {S S1 S2:St} {t:TypeId} {x y r:AV} (h:makeSliceA P S t x y = some (r,S1)) (hl:S2.live = S.live) :
  ∃ l,S1 = { S with live:=l }∧makeSliceA P S2 t x y = some (r,{ S2 with live:=l }):=by
 obtain ⟨b,l⟩:=S
 obtain ⟨b2,l2⟩:=S2
 simp only at hl; subst hl
 unfold makeSliceA at h ⊢
 split at h
 ·rename_i e n m hu
  split at h
  ·rename_i i hi
   split at h
   ·rename_i z hz
    split at h
    ·rename_i hc
     simp only [Option.some.injEq,Prod.mk.injEq] at h
     obtain ⟨rfl,rfl⟩:=h
     exact ⟨_,rfl,by rw [if_pos hc]⟩
    ·cases h
   ·cases h
  ·cases h
 ·cases h
theorem agree_live {S S2:St} {l:List (Nat × TypeId)} (loc:Loc):(loc ∈ [(none:Loc)]→Agree loc { S2 with live:=l } { S with live:=l })∧(loc ∉ [(none:Loc)]→Agree loc { S2 with live:=l } S2∧Agree loc { S with live:=l } S):=by
 constructor
 ·intro h; simp at h; subst h; rfl
 ·intro h
  cases loc with
  | none=>simp at h
  | some id=>exact ⟨rfl,rfl⟩
def lkOf (lk:FuncId→Bool) (ρ:Operand→AV):Op→Bool
 | .call c =>
  match c.callee with
  | .value x =>
   match ρ x with
   | .fn f _=>lk f
   | _=>false
  | _=>false
 | _=>false
theorem opA_local {R:Callee} {C:ICallee} {lk:FuncId→Bool} (hloc:LocC C) (hlk:∀ f,lk f = false→∀ args S,C f args S = none) {ρ:Operand→AV} {bid:Nat} {S S1 S2:St} {op:Op} {r:AV} (h:opA P R C ρ bid S op = some (r,S1)) (ha:∀ loc ∈ touchA ρ bid (lkOf lk ρ op || effA S S1) op,Agree loc S2 S) :
    ∃ S3,opA P R C ρ bid S2 op = some (r,S3)∧∀ loc,(loc ∈ writeA ρ bid (lkOf lk ρ op || effA S S1) op→Agree loc S3 S1)∧(loc ∉ writeA ρ bid (lkOf lk ρ op || effA S S1) op→Agree loc S3 S2∧Agree loc S1 S):=by
  have same:∀ {x:Option AV},x.map (·,S) = some (r,S1)→x.map (·,S2) = some (r,S2)∧S1 = S:=by
    intro x hx
    cases x with
    | none=>simp at hx
    | some y=>simp at hx; obtain ⟨rfl,rfl⟩:=hx; exact ⟨rfl,rfl⟩
  have triv:S1 = S→writeA ρ bid (lkOf lk ρ op || effA S S1) op = []→∀ loc,(loc ∈ writeA ρ bid (lkOf lk ρ op || effA S S1) op→Agree loc S2 S1)∧(loc ∉ writeA ρ bid (lkOf lk ρ op || effA S S1) op→Agree loc S2 S2∧Agree loc S1 S):=by
    intro e hw loc
    subst e
    rw [hw]
    exact ⟨fun h=>by simp at h,fun _=>⟨Agree.refl _ _,Agree.refl _ _⟩⟩
  have nb:∀ {cs:List AV},newBox S bid cs = some (r,S1)→S2.boxes[bid]? = S.boxes[bid]?→∃ S3,newBox S2 bid cs = some (r,S3)∧∀ loc,(loc ∈ [(some bid:Loc)]→Agree loc S3 S1)∧(loc ∉ [(some bid:Loc)]→Agree loc S3 S2∧Agree loc S1 S):=by
    intro cs hn he
    obtain ⟨hb,rfl,rfl⟩:=newBox_some hn
    rw [hb] at he
    refine ⟨_,by unfold newBox; rw [he],fun loc=>⟨fun hl=>?_,fun hl=>?_⟩⟩
    · simp at hl; subst hl
      have h1:bid < S.boxes.length:=(List.getElem?_eq_some_iff.1 hb).1
      have h2:bid < S2.boxes.length:=(List.getElem?_eq_some_iff.1 he).1
      simp [Agree,h1,h2]
    · cases loc with
      | none=>exact ⟨rfl,rfl⟩
      | some id =>
        have hne:bid ≠ id:=fun e=>hl (by simp [e])
        simp [Agree,List.getElem?_set_ne hne]
  have wb:∀ {b:Nat} {cs:List AV} {l:List (Nat × TypeId)} ,b < S.boxes.length→S2.boxes[b]? = S.boxes[b]?→∀ loc,(loc ∈ [(some b:Loc)]→Agree loc { S2 with boxes:=S2.boxes.set b (some cs) } { S with boxes:=S.boxes.set b (some cs) })∧(loc ∉ [(some b:Loc)]→Agree loc { S2 with boxes:=S2.boxes.set b (some cs) } S2∧Agree loc { S with boxes:=S.boxes.set b (some cs) } S):=by
    intro b cs _ h1 he loc
    have h2:b < S2.boxes.length:=by
      rw [List.getElem?_eq_getElem h1] at he; exact (List.getElem?_eq_some_iff.1 he).1
    refine ⟨fun hl=>?_,fun hl=>?_⟩
    · simp at hl; subst hl
      simp [Agree,h1,h2]
    · cases loc with
      | none=>exact ⟨rfl,rfl⟩
      | some id =>
        have hne:b ≠ id:=fun e=>hl (by simp [e])
        simp [Agree,List.getElem?_set_ne hne]
  have ma:∀ {x:AV},(∀ loc ∈ boxOf x,Agree loc S2 S)→mapAt S2 x = mapAt S x:=by
    intro x hx
    unfold mapAt
    cases x <;> first | rfl | skip
    rename_i b
    have:=hx (some b) (by simp [boxOf])
    simp only [Agree] at this
    simp only [this]
  cases op <;> simp only [opA] at h ⊢
  case makeMap t r =>
    split at h
    · rename_i hr
      simp only [hr,if_true]
      unfold makeMapA at h ⊢
      split at h
      · rename_i hk
        simp only [hk,if_true]
        split at h
        · rename_i hb
          simp only [Option.some.injEq,Prod.mk.injEq] at h
          obtain ⟨rfl,rfl⟩:=h
          have hag:=ha (some bid) (by simp [touchA])
          simp only [Agree] at hag
          refine ⟨_,by rw [hag,hb],fun loc=>?_⟩
          have hw:∀ b0,writeA ρ bid b0 (.makeMap t r) = [some bid]:=fun b0=>by simp [writeA,touchA]
          rw [hw]
          exact wb (l:=[]) (List.getElem?_eq_some_iff.1 hb).1 hag loc
        · cases h
      · cases h
    · cases h
  case lookup t x k ok =>
    have hl:lookupA P S2 t (ρ x) (ρ k) ok = lookupA P S t (ρ x) (ρ k) ok:=by
      unfold lookupA
      rw [ma fun loc hl=>ha loc (by simpa [touchA] using hl)]
    rw [hl]
    obtain ⟨h1,h2⟩:=same h
    exact ⟨S2,h1,triv h2 rfl⟩
  case mapUpdate t x k u =>
    have hm:=ma (x:=ρ x) fun loc hl=>ha loc (by simpa [touchA] using hl)
    cases hs:updateA P S t (ρ x) (ρ k) (ρ u) with
    | none=>simp [hs] at h
    | some S1' =>
      simp [hs] at h
      obtain ⟨rfl,rfl⟩:=h
      unfold updateA at hs ⊢
      rw [hm]
      cases hma:mapAt S (ρ x) with
      | none=>simp [hma] at hs
      | some q =>
      cases hkk:keyKind P t with
      | none=>simp [hma,hkk] at hs
      | some q2 =>
        obtain ⟨b,t',n,es⟩:=q
        obtain ⟨kt,et⟩:=q2
        simp only [hma,hkk] at hs ⊢
        split at hs
        · rename_i hc
          simp only [Option.some.injEq] at hs
          subst hs
          obtain ⟨hx,t2,_,hb⟩:=mapAt_some hma
          have hag:=ha (some b) (by simp [touchA,hx,boxOf])
          simp only [Agree] at hag
          refine ⟨_,by rw [if_pos hc]; rfl,fun loc=>?_⟩
          have hw:∀ b0,writeA ρ bid b0 (.mapUpdate t x k u) = [some b]:=fun b0=>by simp [writeA,touchA,hx,boxOf]
          rw [hw]
          exact wb (l:=[]) (List.getElem?_eq_some_iff.1 hb).1 hag loc
        · cases hs
  case alloc t =>
    split at h
    · rename_i z hz
      split at h
      · rename_i hc
        simp only [hc,if_true]
        exact nb h (ha (some bid) (by simp [touchA]))
      · cases h
    · cases h
  case box t x =>
    split at h
    · rename_i hc
      simp only [hc,if_true]
      exact nb h (ha (some bid) (by simp [touchA]))
    · cases h
  case load t x =>
    have hl:loadA P S2 t (ρ x) = loadA P S t (ρ x):=by
      unfold loadA
      split
      · rename_i b o hx
        have:=ha (some b) (by simp [touchA,hx,boxOf])
        simp only [Agree] at this
        rw [this]
      · rfl
      · rename_i b sz i j hx
        have:=ha (some b) (by simp [touchA,hx,boxOf])
        simp only [Agree] at this
        rw [this]
      · rfl
    rw [hl]
    obtain ⟨h1,h2⟩:=same h
    exact ⟨S2,h1,triv h2 rfl⟩
  case range t x =>
    unfold rangeA at h ⊢
    split at h
    · rename_i hx
      exact nb h (ha (some bid) (by simp [touchA]))
    · cases h
  case next it s =>
    unfold nextA at h ⊢
    split at h
    · rename_i b hx
      have hag:=ha (some b) (by simp [touchA,hx,boxOf])
      simp only [Agree] at hag
      simp only [hag]
      split at h
      · rename_i l p hb
        have h1:b < S.boxes.length:=(List.getElem?_eq_some_iff.1 hb).1
        have h2:b < S2.boxes.length:=by rw [hb] at hag; exact (List.getElem?_eq_some_iff.1 hag).1
        have hw:∀ b0,writeA ρ bid b0 (.next it true) = [some b]:=fun b0=>by simp [writeA,touchA,hx,boxOf]
        split at h
        · rename_i hlt
          simp only [Option.some.injEq,Prod.mk.injEq] at h
          obtain ⟨rfl,rfl⟩:=h
          refine ⟨_,by rw [if_pos hlt],fun loc=>?_⟩
          rw [hw]
          constructor
          · intro hl; simp at hl; subst hl
            simp [Agree,h1,h2]
          · intro hl
            cases loc with
            | none=>exact ⟨rfl,rfl⟩
            | some id =>
              have hne:b ≠ id:=fun e=>hl (by simp [e])
              simp [Agree,List.getElem?_set_ne hne]
        · rename_i hlt
          simp only [Option.some.injEq,Prod.mk.injEq] at h
          obtain ⟨rfl,rfl⟩:=h
          refine ⟨_,by rw [if_neg hlt],fun loc=>?_⟩
          rw [hw]
          constructor
          · intro hl; simp at hl; subst hl
            exact hag
          · intro hl
            exact ⟨Agree.refl _ _,Agree.refl _ _⟩
      · cases h
    · cases h
  case store t x y =>
    cases hs:storeA P S t (ρ x) (ρ y) with
    | none=>simp [hs] at h
    | some S1' =>
      simp [hs] at h
      obtain ⟨rfl,rfl⟩:=h
      unfold storeA at hs ⊢
      split at hs
      · rename_i b o hx
        have hag:=ha (some b) (by simp [touchA,hx,boxOf])
        simp only [Agree] at hag
        simp only [hag]
        split at hs
        · rename_i cs hb
          split at hs
          · rename_i hc
            simp at hs; subst hs
            refine ⟨_,by simp only [hc,and_self,if_true]; rfl,fun loc=>?_⟩
            have h1:b < S.boxes.length:=(List.getElem?_eq_some_iff.1 hb).1
            have h2:b < S2.boxes.length:=by rw [hb] at hag; exact (List.getElem?_eq_some_iff.1 hag).1
            have hw:∀ b0,writeA ρ bid b0 (.store t x y) = [some b]:=fun b0=>by simp [writeA,touchA,hx,boxOf]
            rw [hw]
            constructor
            · intro hl; simp at hl; subst hl
              simp [Agree,h1,h2]
            · intro hl
              cases loc with
              | none=>exact ⟨rfl,rfl⟩
              | some id =>
                have hne:b ≠ id:=fun e=>hl (by simp [e])
                simp [Agree,List.getElem?_set_ne hne]
          · cases hs
        · cases hs
      · rename_i b sz i j hx
        have hag:=ha (some b) (by simp [touchA,hx,boxOf])
        simp only [Agree] at hag
        split at hs
        · rename_i sz' es hb
          split at hs
          · rename_i e he
            split at hs
            · rename_i hc
              injection hs with hs; subst hs
              have h1:b < S.boxes.length:=(List.getElem?_eq_some_iff.1 hb).1
              have h2:b < S2.boxes.length:=by rw [hb] at hag; exact (List.getElem?_eq_some_iff.1 hag).1
              obtain ⟨hsz,hc2⟩:=hc
              subst hsz
              refine ⟨{ S2 with boxes:=S2.boxes.set b (some (ownC sz' (es.set i (reC e (spliceA e.cells j (ρ y).strip1.cells))))) },?_,fun loc=>?_⟩
              · simp only [hag,hb,he,hc2,and_self,if_true,Option.map_some]
              have hw:∀ b0,writeA ρ bid b0 (.store t x y) = [some b]:=fun b0=>by simp [writeA,touchA,hx,boxOf]
              rw [hw]
              constructor
              · intro hl; simp at hl; subst hl
                simp [Agree,h1,h2]
              · intro hl
                cases loc with
                | none=>exact ⟨rfl,rfl⟩
                | some id =>
                  have hne:b ≠ id:=fun e=>hl (by simp [e])
                  simp [Agree,List.getElem?_set_ne hne]
            · cases hs
          · cases hs
        · cases hs
      · cases hs
  case makeSlice t l c =>
    obtain ⟨l',rfl,h2⟩:=makeSliceA_local h (ha none (by simp [touchA]))
    exact ⟨_,h2,agree_live⟩
  case pick c x y =>
    split at h
    · simp at h
      obtain ⟨rfl,rfl⟩:=h
      exact ⟨S2,rfl,triv rfl rfl⟩
    · cases h
  case nilCheck x =>
    split at h
    · simp at h
      obtain ⟨rfl,rfl⟩:=h
      exact ⟨S2,rfl,triv rfl rfl⟩
    · simp at h
      obtain ⟨rfl,rfl⟩:=h
      exact ⟨S2,rfl,triv rfl rfl⟩
    · simp at h
      obtain ⟨rfl,rfl⟩:=h
      exact ⟨S2,rfl,triv rfl rfl⟩
    · simp at h
      obtain ⟨rfl,rfl⟩:=h
      exact ⟨S2,rfl,triv rfl rfl⟩
    · cases h
  case makeFunc fn first captured =>
    split at h
    · simp at h
      obtain ⟨rfl,rfl⟩:=h
      exact ⟨S2,rfl,triv rfl rfl⟩
    · cases h
  case move x=>simp at h; obtain ⟨rfl,rfl⟩:=h; exact ⟨S2,rfl,triv rfl rfl⟩
  case assign x=>simp at h; obtain ⟨rfl,rfl⟩:=h; exact ⟨S2,rfl,triv rfl rfl⟩
  case extract t i =>
    split at h
    · obtain ⟨h1, h2⟩ := same h
      exact ⟨S2,h1,triv h2 rfl⟩
    · cases h
  case call c =>
    obtain ⟨callee,args,tys⟩:=c
    cases callee with
    | builtin b =>
      cases b <;> simp only at h ⊢ <;> first | (cases h; done) | skip
      case len =>
        split at h
        · obtain ⟨h1, h2⟩ := same h
          exact ⟨S2,h1,triv h2 rfl⟩
        · cases h
      case max =>
        split at h
        · obtain ⟨h1, h2⟩ := same h
          exact ⟨S2,h1,triv h2 rfl⟩
        · cases h
      case min =>
        split at h
        · obtain ⟨h1, h2⟩ := same h
          exact ⟨S2,h1,triv h2 rfl⟩
        · cases h
      case append =>
        split at h
        · obtain ⟨l', rfl, h2⟩ := appendA_local h (ha none (by simp [touchA]))
          exact ⟨_,h2,agree_live⟩
        · cases h
      case delete =>
        split at h
        · rename_i t t2 x y hts hxs
          split at h
          · rename_i hkk0
            rw [if_pos hkk0]
            have hm:=ma (x:=ρ x) fun loc hl=>ha loc (by simpa [touchA,hxs] using hl)
            cases hs:deleteA P S t (ρ x) (ρ y) with
            | none=>simp [hs] at h
            | some S1' =>
              simp [hs] at h
              obtain ⟨rfl,rfl⟩:=h
              unfold deleteA at hs ⊢
              rw [hm]
              cases hma:mapAt S (ρ x) with
              | none=>simp [hma] at hs
              | some q =>
              cases hkk:keyKind P t with
              | none=>simp [hma,hkk] at hs
              | some q2 =>
                obtain ⟨b,t',n,es⟩:=q
                obtain ⟨kt,et⟩:=q2
                simp only [hma,hkk] at hs ⊢
                split at hs
                · rename_i hc
                  simp only [Option.some.injEq] at hs
                  subst hs
                  obtain ⟨hx,t2,_,hb⟩:=mapAt_some hma
                  have hag:=ha (some b) (by simp [touchA,hxs,hx,boxOf])
                  simp only [Agree] at hag
                  refine ⟨_,by rw [if_pos hc]; rfl,fun loc=>?_⟩
                  have hw:∀ b0,writeA ρ bid b0 (.call ⟨.builtin .delete,args,tys⟩) = [some b]:=fun b0=>by simp [writeA,touchA,hxs,hx,boxOf]
                  rw [hw]
                  exact wb (l:=[]) (List.getElem?_eq_some_iff.1 hb).1 hag loc
                · cases hs
          · cases h
        · cases h
      case clear =>
        split at h
        · rename_i t x hts hxs
          cases hs:clearA P S t (ρ x) with
          | none=>simp [hs] at h
          | some S1' =>
            simp [hs] at h
            obtain ⟨rfl,rfl⟩:=h
            unfold clearA at hs ⊢
            split at hs
            · rename_i e b sz i n hu hx
              have hag:=ha (some b) (by simp [touchA,hxs,hx,boxOf])
              simp only [Agree] at hag
              simp only [hag]
              split at hs
              · rename_i sz' es z hb hz
                split at hs
                · rename_i hc
                  injection hs with hs; subst hs
                  simp only [hc,and_self,if_true]
                  refine ⟨_,rfl,fun loc=>?_⟩
                  have hw:∀ b0,writeA ρ bid b0 (.call ⟨.builtin .clear,args,tys⟩) = [some b]:=fun b0=>by simp [writeA,touchA,hxs,hx,boxOf]
                  rw [hw]
                  exact wb (l:=[]) (List.getElem?_eq_some_iff.1 hb).1 hag loc
                · cases hs
              · cases hs
            · cases hs
        · cases h
      case copy =>
        split at h
        · rename_i t t2 x y hts hxs
          have key:∀ {e:TypeId} {b sz i n sy:Nat} {ys:List AV},boxOf (ρ x) = [some b]→copyTo P S e b sz i n sy ys = some (r,S1)→∃ S3,copyTo P S2 e b sz i n sy ys = some (r,S3) ∧
              ∀ loc,(loc ∈ writeA ρ bid (lkOf lk ρ (.call ⟨.builtin .copy,args,tys⟩) || effA S S1) (.call ⟨.builtin .copy,args,tys⟩)→Agree loc S3 S1)∧(loc ∉ writeA ρ bid (lkOf lk ρ (.call ⟨.builtin .copy,args,tys⟩) || effA S S1) (.call ⟨.builtin .copy,args,tys⟩)→Agree loc S3 S2∧Agree loc S1 S):=by
            intro e b sz i n sy ys hx hs
            have hag:=ha (some b) (by simp [touchA,hxs,hx])
            simp only [Agree] at hag
            unfold copyTo at hs ⊢
            rw [hag]
            split at hs
            · rename_i sz' es hb
              split at hs
              · rename_i hc
                injection hs with hs
                injection hs with hs1 hs2
                subst hs1; subst hs2
                first
                  | rw [if_pos hc]
                  | (simp only [hb]; rw [if_pos hc])
                refine ⟨_,rfl,fun loc=>?_⟩
                have hw:∀ b0,writeA ρ bid b0 (.call ⟨.builtin .copy,args,tys⟩) = [some b]:=fun b0=>by simp [writeA,touchA,hxs,hx]
                rw [hw]
                exact wb (l:=[]) (List.getElem?_eq_some_iff.1 hb).1 hag loc
              · cases hs
            · cases hs
          unfold copyA at h ⊢
          split at h
          · rename_i e sy ys o hu hy
            split at h
            · rename_i b sz n hx
              exact key (by rw [hx]; rfl) h
            · rename_i b sz i n hx
              exact key (by rw [hx]; rfl) h
            · cases h
          · cases h
        · cases h
    | value f =>
      simp only at h ⊢
      split at h
      · rename_i g cap hf
        have hl0:=hloc g (args.toList.map ρ ++ cap) S S2
        simp only [callG] at h ⊢
        split at h
        · rename_i x hx
          injection h with h
          subst h
          have hlt:lk g = true:=by
            cases hg:lk g with
            | true=>rfl
            | false=>rw [hlk g hg] at hx; cases hx
          have hlo:lkOf lk ρ (.call ⟨.value f,args,tys⟩) = true:=by simp only [lkOf,hf]; exact hlt
          have hl:S2.live = S.live:=ha none (by simp [touchA,hlo])
          have hl1:=hl0 hl
          rw [hx] at hl1
          simp only at hl1
          obtain ⟨e1,e2⟩:=hl1
          rw [e2]
          refine ⟨_,rfl,?_⟩
          have hw:writeA ρ bid (lkOf lk ρ (.call ⟨.value f,args,tys⟩) || effA S S1) (.call ⟨.value f,args,tys⟩) = [none]:=by simp [writeA,touchA,hlo]
          rw [hw,e1]
          exact agree_live
        rename_i hx
        have hx2:S2.live = S.live→C g (args.toList.map ρ ++ cap) S2 = none:=fun hl=>by
          have:=hl0 hl
          rw [hx] at this
          exact this
        have hx3:lk g = false→C g (args.toList.map ρ ++ cap) S2 = none:=fun h0=>hlk g h0 _ _
        split at h
        case isFalse=>cases h
        rename_i hcg
        simp only [callA,hcg,if_true] at h ⊢
        split at h
        · rename_i r0 hr
          simp at h
          obtain ⟨rfl,rfl⟩:=h
          cases hg:lk g with
          | false =>
            have hlo:lkOf lk ρ (.call ⟨.value f,args,tys⟩) = false:=by simp only [lkOf,hf]; exact hg
            refine ⟨S2,by rw [hx3 hg],triv rfl ?_⟩
            simp [writeA,touchA,effA,hlo]
          | true =>
            have hlo:lkOf lk ρ (.call ⟨.value f,args,tys⟩) = true:=by simp only [lkOf,hf]; exact hg
            have hl:S2.live = S.live:=ha none (by simp [touchA,hlo])
            refine ⟨S2,by rw [hx2 hl],fun loc=>?_⟩
            have hw:writeA ρ bid (lkOf lk ρ (.call ⟨.value f,args,tys⟩) || effA S S) (.call ⟨.value f,args,tys⟩) = [none]:=by simp [writeA,touchA,hlo]
            rw [hw]
            refine ⟨fun h=>?_,fun _=>⟨Agree.refl _ _,Agree.refl _ _⟩⟩
            simp at h; subst h; exact hl
        · rename_i r0 p lv hr
          simp at h
          obtain ⟨rfl,rfl⟩:=h
          have he:effA S { S with live:=S.live ++ p :: lv } = true:=by simp [effA]
          have hl:S2.live = S.live:=ha none (by simp [touchA,he])
          refine ⟨{ S2 with live:=S2.live ++ p :: lv },by rw [hx2 hl,hl],?_⟩
          have hw:writeA ρ bid (lkOf lk ρ (.call ⟨.value f,args,tys⟩) || effA S { S with live:=S.live ++ p :: lv }) (.call ⟨.value f,args,tys⟩) = [none]:=by simp [writeA,touchA,he]
          rw [hw,hl]
          exact agree_live
        · cases h
      · cases h
    | invoke r m=>simp at h
  all_goals first
    | (cases h; done)
    | (obtain ⟨h1, h2⟩ := same h
       exact ⟨S2,h1,triv h2 rfl⟩)
end
def dirA (ops:List Oper) (i j:Nat):Bool:=
 match ops[i]? with
 | some o=>o.after.toList.any fun e=>Region.binds .any e && e.on == j
 | none=>false
def drawOk (ops:List Oper):Bool:=
 ops.zipIdx.all fun (oi,i) =>
  (oi.after.toList.all fun e=>!Region.binds .any e || decide (e.on < i)) &&
  ops.zipIdx.all fun (oj,j) =>
   match oj.dst with
   | some t=>(i == j || oi.dst != some t) && (!(oi.looksAt ops.toArray).contains t || (decide (j < i) && dirA ops i j) || (decide (i < j) && dirA ops j i))
   | none=>true
def entA (G:Glob) (lk:FuncId→Bool) (ops:List Oper) (T:List AV) (bid:Nat) (S S':St) (o:Oper):List Loc × List Loc:=
 if guardA ops T o = some true then (touchA (evA G T) bid (lkOf lk (evA G T) o.op || effA S S') o.op,writeA (evA G T) bid (lkOf lk (evA G T) o.op || effA S S') o.op) else ([],[])
def logA (P:Program) (G:Glob) (R:Callee) (C:ICallee) (lk:FuncId→Bool) (ops:List Oper):List Oper→Nat→List AV→St→Option (List (List Loc × List Loc) × List AV × St)
 | [],_,T,S=>some ([],T,S)
 | o :: l,bid,T,S =>
  match stepA P G R C ops bid o T S with
  | some (r,S') =>
   match logA P G R C lk ops l (nextBid o bid) (putA T o.dst r) S' with
   | some (lg,T2,S2)=>some (entA G lk ops T bid S S' o :: lg,T2,S2)
   | none=>none
  | none=>none
def confOk (ops:List Oper) (lg:List (List Loc × List Loc)):Bool:=
 lg.zipIdx.all fun (a,i)=>lg.zipIdx.all fun (b,j) =>
  !(decide (i < j)) || dirA ops j i || !(a.2.any (fun x=>b.1.contains x) || a.1.any (fun x=>b.2.contains x))
section
variable {P : Program} {G : Glob} {N0 : Nat → Prop} {w0 : World} {I0 : Nat → Nat → Prop}
theorem logA_seq {R:Callee} {C:ICallee} {lk:FuncId→Bool} {ops:List Oper}:∀ (l:List Oper) (bid:Nat) (T:List AV) (S:St) (lg:List (List Loc × List Loc)) (T':List AV) (S':St),logA P G R C lk ops l bid T S = some (lg,T',S') →
  ∃ (Ts:Nat→List AV) (Ss:Nat→St) (bs:Nat→Nat) (rs:Nat→AV),Ts 0 = T∧Ss 0 = S∧Ts l.length = T'∧Ss l.length = S'∧lg.length = l.length ∧
   ∀ (i:Nat) (o:Oper),l[i]? = some o→stepA P G R C ops (bs i) o (Ts i) (Ss i) = some (rs i,Ss (i + 1))∧Ts (i + 1) = putA (Ts i) o.dst (rs i)∧lg[i]? = some (entA G lk ops (Ts i) (bs i) (Ss i) (Ss (i + 1)) o)
 | [],bid,T,S,lg,T',S',h=>by
  simp only [logA,Option.some.injEq,Prod.mk.injEq] at h
  obtain ⟨rfl,rfl,rfl⟩:=h
  exact ⟨fun _=>T,fun _=>S,fun _=>0,fun _=>.junk,rfl,rfl,rfl,rfl,rfl,fun i o h=>by simp at h⟩
 | o :: l,bid,T,S,lg,T',S',h=>by
  simp only [logA] at h
  split at h
  ·rename_i r S1 hs
   split at h
   ·rename_i lg2 T2 S2 hl
    simp only [Option.some.injEq,Prod.mk.injEq] at h
    obtain ⟨rfl,rfl,rfl⟩:=h
    obtain ⟨Ts,Ss,bs,rs,h1,h2,h3,h4,h5,h6⟩:=logA_seq l _ _ _ _ _ _ hl
    refine ⟨fun i=>match i with | 0=>T | i + 1=>Ts i,fun i=>match i with | 0=>S | i + 1=>Ss i,fun i=>match i with | 0=>bid | i + 1=>bs i,fun i=>match i with | 0=>r | i + 1=>rs i,
     rfl,rfl,h3,h4,by simp [h5],fun i o' ho=>?_⟩
    match i,ho with
    | 0,ho =>
     simp only [List.getElem?_cons_zero,Option.some.injEq] at ho
     subst ho
     simp only [h1,h2,hs,List.getElem?_cons_zero,and_self]
    | i + 1,ho =>
     have:=h6 i o' (by simpa using ho)
     simpa using this
   ·cases h
  ·cases h
theorem countP_lt {α:Type} {p q:α→Bool}:∀ (l:List α),(∀ x ∈ l,q x = true→p x = true)→(∃ x ∈ l,p x = true∧q x = false)→l.countP q < l.countP p
 | [],_,⟨x,hx,_⟩=>by cases hx
 | y :: l,h,⟨x,hx,hp,hq⟩=>by
  have hle:l.countP q≤l.countP p:=List.countP_mono_left fun z hz=>h z (by simp [hz])
  rcases List.mem_cons.1 hx with rfl | hx'
  ·simp [hp,hq]; omega
  ·have ih:=countP_lt l (fun z hz=>h z (by simp [hz])) ⟨x,hx',hp,hq⟩
   have:=h y (by simp)
   simp only [List.countP_cons]
   by_cases hqy:q y = true
   ·simp [hqy,this hqy]; exact ih
   ·simp [hqy]; omega
theorem zip_all {α:Type} {l:List α} {f:α × Nat→Bool} (h:l.zipIdx.all f = true) {i:Nat} {x:α} (hx:l[i]? = some x):f (x,i) = true:=by
 rw [List.all_eq_true] at h
 refine h (x,i) (List.mem_iff_getElem?.2 ⟨i,?_⟩)
 rw [List.getElem?_zipIdx,hx]; simp
theorem putA_length (T:List AV) (d:Option Tmp) (r:AV):(putA T d r).length = T.length:=by cases d <;> simp [putA]
set_option maxHeartbeats 1000000 in
theorem drawA_wp {R:Callee} {C:ICallee} {lk:FuncId→Bool} (hm:P.follows .mixedOrders = true) (hR:CalleeOk P G R) (hC:ICalleeOk P G C) (hlc:LocC C) (hlk:∀ f,lk f = false→∀ args S,C f args S = none) {ops:List Oper} (hok:drawOk ops = true) {id bid:Nat} {T T':List AV} {S0 S':St} {lg:List (List Loc × List Loc)}
    (hlog:logA P G R C lk ops ops bid T S0 = some (lg,T',S')) (hconf:confOk ops lg = true) {E0:Env} {a0:Act} {w1:World} (hS:SR P G N0 w0 I0 S0 E0 w1) (hT:TR E0 w1 T a0.tmps) {Q:Exit→Act→World→Prop}
    (hQ:∀ E' w' a',SR P G N0 w0 I0 S' E' w'→Env.Le E0 E' w1 w'→TR E' w' T' a'.tmps→a'.defers = a0.defers→Q .normal a' w'):(Code.region id ops.toArray true).wp P Q a0 w1:=by
  obtain ⟨Ts,Ss,bs,rs,e1,e2,e3,e4,e5,hseq⟩:=logA_seq ops bid T S0 lg T' S' hlog
  -- what the checks say
  have ok1:∀ i o e,ops[i]? = some o→e ∈ o.after→Region.binds .any e = true→e.on < i:=fun i o e ho he hb=>by
    have:=zip_all hok ho
    simp only [Bool.and_eq_true,List.all_eq_true] at this
    have h2:=this.1 e (by simpa using he)
    simpa [hb] using h2
  have ok2:∀ i oi j oj t,ops[i]? = some oi→ops[j]? = some oj→oj.dst = some t→(i ≠ j→oi.dst ≠ some t)∧(t ∈ oi.looksAt ops.toArray→(j < i∧dirA ops i j = true)∨(i < j∧dirA ops j i = true)):=fun i oi j oj t hi hj ht=>by
    have:=zip_all hok hi
    simp only [Bool.and_eq_true] at this
    have h2:=zip_all this.2 hj
    simp only [ht,Bool.and_eq_true,Bool.or_eq_true,beq_iff_eq,bne_iff_ne,ne_eq,Bool.not_eq_true'] at h2
    refine ⟨fun hne=>h2.1.resolve_left hne,fun hmem=>?_⟩
    rcases h2.2 with (h3 | h3) | h3
    · have : (oi.looksAt ops.toArray).contains t = true := by simpa using hmem
      rw [this] at h3; cases h3
    · exact .inl (by simpa using h3)
    · exact .inr (by simpa using h3)
  have dir:∀ i j,dirA ops i j = true→∃ o e,ops[i]? = some o∧e ∈ o.after∧Region.binds .any e = true∧e.on = j:=fun i j h=>by
    unfold dirA at h
    split at h
    · rename_i o ho
      obtain ⟨e,he,hh⟩:=List.any_eq_true.1 h
      simp only [Bool.and_eq_true,beq_iff_eq] at hh
      exact ⟨o,e,ho,by simpa using he,hh.1,hh.2⟩
    · cases h
  have ok3:∀ i j a b loc,lg[i]? = some a→lg[j]? = some b→i < j→(loc ∈ a.2∧loc ∈ b.1∨loc ∈ a.1∧loc ∈ b.2)→dirA ops j i = true:=fun i j a b loc hi hj hlt hloc=>by
    have:=zip_all hconf hi
    have h2:=zip_all this hj
    simp only [hlt,decide_true,Bool.not_true,Bool.false_or,Bool.or_eq_true,Bool.not_eq_true',Bool.or_eq_false_iff] at h2
    rcases h2 with h2 | ⟨h3,h4⟩
    · exact h2
    · exfalso
      rcases hloc with ⟨x1,x2⟩ | ⟨x1,x2⟩
      · have : a.2.any (fun x => b.1.contains x) = true := List.any_eq_true.2 ⟨loc, x1, by simpa using x2⟩
        rw [this] at h3; cases h3
      · have : a.1.any (fun x => b.2.contains x) = true := List.any_eq_true.2 ⟨loc, x1, by simpa using x2⟩
        rw [this] at h4; cases h4
  have hlen:∀ i,i≤ops.length→(Ts i).length = T.length:=fun i=>by
    induction i with
    | zero=>intro _; rw [e1]
    | succ i ih =>
      intro hi
      have ho:ops[i]? = some ops[i]:=List.getElem?_eq_getElem (by omega)
      rw [(hseq i _ ho).2.1,putA_length]; exact ih (by omega)
  -- a slot is written once
  have stay:∀ t i,(∀ j oj,ops[j]? = some oj→oj.dst = some t→j < i)→∀ k,i≤k→k≤ops.length→(Ts k)[t]? = (Ts i)[t]?:=fun t i hw k=>by
    induction k with
    | zero => intro h _; have : i = 0 := by omega
              subst this; rfl
    | succ k ih =>
      intro h1 h2
      rcases Nat.lt_or_ge k i with h | h
      · have : i = k + 1 := by omega
        subst this; rfl
      · have ho : ops[k]? = some ops[k] := List.getElem?_eq_getElem (by omega)
        rw [(hseq k _ ho).2.1,← ih h (by omega)]
        unfold putA
        split
        · rename_i d hd
          have hne:d ≠ t:=fun e=>by
            subst e
            have:=hw k _ ho hd
            omega
          rw [List.getElem?_set_ne hne]
        · rfl
  have stay0:∀ t i,i≤ops.length→(∀ j oj,ops[j]? = some oj→oj.dst = some t→i≤j)→(Ts i)[t]? = T[t]?:=fun t i=>by
    induction i with
    | zero=>intro _ _; rw [e1]
    | succ i ih =>
      intro hi hw
      have ho:ops[i]? = some ops[i]:=List.getElem?_eq_getElem (by omega)
      rw [(hseq i _ ho).2.1,← ih (by omega) (fun j oj hj hd=>by have:=hw j oj hj hd; omega)]
      unfold putA
      split
      · rename_i d hd
        have hne:d ≠ t:=fun e=>by
          subst e
          have:=hw i _ ho hd
          omega
        rw [List.getElem?_set_ne hne]
      · rfl
  have wrT:∀ i o,ops[i]? = some o→(∀ loc,loc ∉ (entA G lk ops (Ts i) (bs i) (Ss i) (Ss (i + 1)) o).2→Agree loc (Ss (i + 1)) (Ss i)):=fun i o ho loc hloc=>by
    have hst:=(hseq i o ho).1
    unfold stepA at hst
    unfold entA at hloc
    split at hst
    · rename_i hg
      rw [if_pos hg] at hloc
      obtain ⟨S3,_,h2⟩:=opA_local (S2:=Ss i) hlc hlk hst (fun loc _=>Agree.refl _ _)
      exact ((h2 loc).2 hloc).2
    · simp only [Option.some.injEq, Prod.mk.injEq] at hst
      rw [hst.2]; exact Agree.refl _ _
    · cases hst
  have agTrans:∀ {loc:Loc} {A B C:St},Agree loc A B→Agree loc B C→Agree loc A C:=fun {loc A B C} h k=>by
    cases loc with
    | none=>exact Eq.trans h k
    | some i=>exact Eq.trans h k
  have agSymm:∀ {loc:Loc} {A B:St},Agree loc A B→Agree loc B A:=fun {loc A B} h=>by
    cases loc with
    | none=>exact Eq.symm h
    | some i=>exact Eq.symm h
  have key:∀ (fuel:Nat) (listed:Array Bool) (a:Act) (w:World) (S:St) (E:Env),listed.size = ops.length →
      ((List.range ops.length).countP fun i=>!listed.getD i false)≤fuel →
      (∀ j o e,ops[j]? = some o→listed.getD j false = true→e ∈ o.after→Region.binds .any e = true→listed.getD e.on false = true) →
      T'.length = a.tmps.size→(∀ (t:Nat) (c:AV) (v:Value),T'[t]? = some c→a.tmps[t]? = some v→(∀ j oj,ops[j]? = some oj→oj.dst = some t→listed.getD j false = true)→Rep E w c v) →
      (∀ (t:Nat) (c:AV) (v:Value),T[t]? = some c→a.tmps[t]? = some v→(∀ j oj,ops[j]? = some oj→oj.dst = some t→listed.getD j false = false)→Rep E w c v) →
      (∀ (loc:Loc) (m:Nat),m≤ops.length→(∀ j e,lg[j]? = some e→loc ∈ e.2→(listed.getD j false = true ↔ j < m))→Agree loc S (Ss m)) →
      SR P G N0 w0 I0 S E w→Env.Le E0 E w1 w→a.defers = a0.defers→wpAny P .any ops.toArray Q fuel listed a w:=by
    intro fuel
    induction fuel with
    | zero =>
      intro listed a w S E hsz hun hcl htz htm htm0 hmem hSR hle hdf
      have hall:∀ j,j < ops.length→listed.getD j false = true:=fun j hj=>by
        have h0:((List.range ops.length).countP fun i=>!listed.getD i false) = 0:=by omega
        rw [List.countP_eq_zero] at h0
        have:=h0 j (List.mem_range.2 hj)
        simpa using this
      have hS':S = S':=by
        obtain ⟨b,l⟩:=S
        obtain ⟨b',l'⟩:=S'
        have hfull:∀ loc,Agree loc ⟨b,l⟩ ⟨b',l'⟩:=fun loc=>by
          rw [← e4]
          exact hmem loc ops.length (Nat.le_refl _) fun j e hj _=>by
            have hj':j < ops.length:=by rw [← e5]; exact (List.getElem?_eq_some_iff.1 hj).1
            exact ⟨fun _=>hj',fun _=>hall j hj'⟩
        have hb:b = b':=List.ext_getElem? fun i=>hfull (some i)
        have hl:l = l':=hfull none
        rw [hb,hl]
      subst hS'
      refine ⟨?_,hQ E w a hSR hle ⟨htz,fun t c v hc hv=>htm t c v hc hv fun j oj hj _=>hall j (List.getElem?_eq_some_iff.1 hj).1⟩ hdf⟩
      cases hr:Region.ready .any ops.toArray listed with
      | nil=>rfl
      | cons x xs =>
        have hx:x ∈ Region.ready .any ops.toArray listed:=by rw [hr]; simp
        obtain ⟨h1,o,ho,_⟩:=mem_ready.1 hx
        have hx':x < ops.length:=by simpa using (Array.getElem?_eq_some_iff.1 ho).1
        have h2:=hall x hx'
        simp [Array.getD,hsz,hx'] at h1 h2
        rw [h1] at h2; cases h2
    | succ fuel ih =>
      intro listed a w S E hsz hun hcl htz htm htm0 hmem hSR hle hdf
      refine ⟨fun hr=>?_,fun i hi=>?_⟩
      · -- nothing is ready: all is done
        have hall:∀ j,j < ops.length→listed.getD j false = true:=fun j=>by
          induction j using Nat.strongRecOn with
          | _ j ihj =>
            intro hj
            cases hL:listed.getD j false with
            | true=>rfl
            | false =>
              exfalso
              have ho:ops[j]? = some ops[j]:=List.getElem?_eq_getElem hj
              have:j ∈ Region.ready .any ops.toArray listed:=mem_ready.2 ⟨by simp [Array.getD,hsz,hj] at hL ⊢; exact hL,ops[j],by simp,fun e he hb=>by
                have hlt:=ok1 j _ e ho he hb
                exact ihj e.on hlt (by omega)⟩
              rw [hr] at this; cases this
        have hS':S = S':=by
          obtain ⟨b,l⟩:=S
          obtain ⟨b',l'⟩:=S'
          have hfull:∀ loc,Agree loc ⟨b,l⟩ ⟨b',l'⟩:=fun loc=>by
            rw [← e4]
            exact hmem loc ops.length (Nat.le_refl _) fun j e hj _=>by
              have hj':j < ops.length:=by rw [← e5]; exact (List.getElem?_eq_some_iff.1 hj).1
              exact ⟨fun _=>hj',fun _=>hall j hj'⟩
          have hb:b = b':=List.ext_getElem? fun i=>hfull (some i)
          have hl:l = l':=hfull none
          rw [hb,hl]
        subst hS'
        exact hQ E w a hSR hle ⟨htz,fun t c v hc hv=>htm t c v hc hv fun j oj hj _=>hall j (List.getElem?_eq_some_iff.1 hj).1⟩ hdf
      · obtain ⟨hun_i, o, ho', hready⟩ := mem_ready.1 hi
        have ho:ops[i]? = some o:=by simpa using ho'
        have hin:i < ops.length:=(List.getElem?_eq_some_iff.1 ho).1
        have hnot:listed.getD i false = false:=by simp [Array.getD,hsz,hin] at hun_i ⊢; exact hun_i
        have hset:∀ j,(listed.setIfInBounds i true).getD j false = (if i = j then true else listed.getD j false):=fun j=>by
          by_cases hj:i = j
          · subst hj
            simp [Array.getD,hsz,hin]
          · rw [getD_set_ne false hj,if_neg hj]
        have hdirL:∀ j,dirA ops i j = true→listed.getD j false = true:=fun j hd=>by
          obtain ⟨o2,e,h1,h2,h3,h4⟩:=dir i j hd
          rw [ho] at h1; injection h1 with h1; subst h1
          rw [← h4]; exact hready e h2 h3
        obtain ⟨hst,hTs,hlg⟩:=hseq i o ho
        -- the slots that it looks at are known
        have hlook:∀ t,t ∈ o.looksAt ops.toArray→∀ (c:AV) (v:Value),(Ts i)[t]? = some c→a.tmps[t]? = some v→Rep E w c v:=fun t ht c v hc hv=>by
          by_cases hB:∃ j oj,ops[j]? = some oj∧oj.dst = some t∧i < j
          · obtain ⟨j, oj, hj, hd, hij⟩ := hB
            have uniq:∀ k ok,ops[k]? = some ok→ok.dst = some t→k = j:=fun k ok hk hdk=>by
              by_cases hkj:k = j
              · exact hkj
              · exact absurd hdk ((ok2 k ok j oj t hk hj hd).1 hkj)
            rw [stay0 t i (by omega) (fun k ok hk hdk=>by have:=uniq k ok hk hdk; omega)] at hc
            refine htm0 t c v hc hv fun k ok hk hdk=>?_
            obtain rfl:=uniq k ok hk hdk
            have hdir:dirA ops k i = true:=by
              rcases (ok2 i o k oj t ho hj hd).2 ht with h | h
              · omega
              · exact h.2
            cases hL:listed.getD k false with
            | false=>rfl
            | true =>
              obtain ⟨o2,e,h1,h2,h3,h4⟩:=dir k i hdir
              have:=hcl k o2 e h1 hL h2 h3
              rw [h4,hnot] at this; cases this
          · have hA:∀ j oj,ops[j]? = some oj→oj.dst = some t→j < i∧dirA ops i j = true:=fun j oj hj hd=>by
              rcases (ok2 i o j oj t ho hj hd).2 ht with h | h
              · exact h
              · exact absurd ⟨j,oj,hj,hd,h.1⟩ hB
            rw [← stay t i (fun j oj hj hd=>(hA j oj hj hd).1) ops.length (by omega) (Nat.le_refl _),e3] at hc
            exact htm t c v hc hv fun j oj hj hd=>hdirL j (hA j oj hj hd).2
        have hTlen:(Ts i).length = a.tmps.size:=by rw [hlen i (by omega),← htz,← e3,hlen _ (Nat.le_refl _)]
        have hgrd:∀ g,guardA ops (Ts i) o = some g→Region.wanted o (yielded ops.toArray a.tmps) = g:=fun g hg=>by
          refine guardA_run (E:=E) (w:=w) hg hTlen fun j want t c v hgu hd hc hv=>?_
          have hmem:t ∈ o.looksAt ops.toArray:=by
            unfold Oper.looksAt
            refine List.mem_append_right _ ?_
            rw [hgu]
            simp [hd]
          exact hlook t hmem c v hc hv
        -- what holds behind it
        have next:∀ (a':Act) (w':World) (S3:St) (E':Env) (r:AV) (v:Value),a' = a.put o.dst v→r = rs i→SR P G N0 w0 I0 S3 E' w'→Env.Le E E' w w'→Rep E' w' r v →
            (∀ loc,(loc ∈ (entA G lk ops (Ts i) (bs i) (Ss i) (Ss (i + 1)) o).2→Agree loc S3 (Ss (i + 1)))∧(loc ∉ (entA G lk ops (Ts i) (bs i) (Ss i) (Ss (i + 1)) o).2→Agree loc S3 S)) →
            wpAny P .any ops.toArray Q fuel (listed.setIfInBounds i true) a' w':=by
          intro a' w' S3 E' r v ha hr hSR' hle' hrep hS3
          subst ha; subst hr
          refine ih _ _ _ S3 E' (by simpa using hsz) ?_ (fun j oj e hj hL he hb=>?_) ?_ (fun t c u hc hu hw=>?_) (fun t c u hc hu hw=>?_) (fun loc m hm hw=>?_) hSR' (hle.trans hle') ((put_defers _ _ _).trans hdf)
          · have:=countP_lt (p:=fun i=>!listed.getD i false) (q:=fun j=>!(listed.setIfInBounds i true).getD j false) (List.range ops.length) (fun x _ hx=>by
              simp only [hset] at hx
              split at hx
              · cases hx
              · exact hx) ⟨i,List.mem_range.2 hin,by simpa using hnot,by simp [hset]⟩
            omega
          · rw [hset] at hL ⊢
            split
            · rfl
            · split at hL
              · rename_i h1 h2
                subst h2
                rw [ho] at hj; injection hj with hj; subst hj
                exact hready e he hb
              · exact hcl j oj e hj hL he hb
          · rw [htz]; cases o.dst <;> simp [Act.put]
          · -- slots
            by_cases hd:o.dst = some t
            · have htl : t < T'.length := (List.getElem?_eq_some_iff.1 hc).1
              have h1:T'[t]? = some (rs i):=by
                rw [← e3]
                have h2:=stay t (i + 1) (fun j oj hj hdj=>by
                  by_cases hji:j = i
                  · omega
                  · exact absurd hd ((ok2 i o j oj t ho hj hdj).1 (Ne.symm hji))) ops.length (by omega) (Nat.le_refl _)
                rw [h2,hTs]
                simp only [putA,hd]
                rw [List.getElem?_set_self (by rw [hlen i (by omega)]; rw [← e3,hlen _ (Nat.le_refl _)] at htl; exact htl)]
              rw [h1] at hc; injection hc with hc; subst hc
              have h2:(a.put o.dst v).tmps[t]? = some v:=by
                simp only [Act.put,hd]
                rw [Array.getElem?_setIfInBounds]
                simp [← htz,htl]
              rw [h2] at hu; injection hu with hu; subst hu
              exact hrep
            · have h2:(a.put o.dst v).tmps[t]? = a.tmps[t]?:=by
                cases hdd:o.dst with
                | none=>rfl
                | some d =>
                  have hne:d ≠ t:=fun e=>hd (by rw [hdd,e])
                  simp only [Act.put]
                  rw [Array.getElem?_setIfInBounds_ne hne]
              rw [h2] at hu
              refine (htm t c u hc hu fun j oj hj hdj=>?_).le hle'
              have:=hw j oj hj hdj
              rw [hset] at this
              split at this
              · rename_i h3
                subst h3
                rw [ho] at hj; injection hj with hj; subst hj
                exact absurd hdj hd
              · exact this
          · -- slots that are as they were
            have hd:o.dst ≠ some t:=fun hd=>by
              have:=hw i o ho hd
              rw [hset,if_pos rfl] at this; cases this
            have h2:(a.put o.dst v).tmps[t]? = a.tmps[t]?:=by
              cases hdd:o.dst with
              | none=>rfl
              | some d =>
                have hne:d ≠ t:=fun e=>hd (by rw [hdd,e])
                simp only [Act.put]
                rw [Array.getElem?_setIfInBounds_ne hne]
            rw [h2] at hu
            refine (htm0 t c u hc hu fun j oj hj hdj=>?_).le hle'
            have:=hw j oj hj hdj
            rw [hset] at this
            split at this
            · cases this
            · exact this
          · -- memory
            by_cases hin':loc ∈ (entA G lk ops (Ts i) (bs i) (Ss i) (Ss (i + 1)) o).2
            · have him:i < m:=by
                have:=(hw i _ hlg hin')
                rw [hset,if_pos rfl] at this
                exact this.1 rfl
              have hno:∀ k,i < k→k < m→∀ e,lg[k]? = some e→loc ∉ e.2:=fun k hik hkm e he hloc=>by
                have hL:=(hw k e he hloc).2 hkm
                rw [hset,if_neg (by omega)] at hL
                have hd:=ok3 i k _ e loc hlg he hik (.inr ⟨by
                  have h5:loc ∈ (entA G lk ops (Ts i) (bs i) (Ss i) (Ss (i + 1)) o).2:=hin'
                  unfold entA at h5 ⊢
                  split at h5
                  · rename_i hg
                    simp only at h5 ⊢
                    unfold writeA at h5
                    rw [if_pos hg]
                    split at h5 <;> first | (simp at h5; done) | exact h5
                  · simp at h5,hloc⟩)
                obtain ⟨o2,e',h1,h2,h3,h4⟩:=dir k i hd
                have:=hcl k o2 e' h1 hL h2 h3
                rw [h4,hnot] at this; cases this
              have hsteps:∀ k,i + 1≤k→k≤m→Agree loc (Ss k) (Ss (i + 1)):=fun k=>by
                induction k with
                | zero=>intro h _; omega
                | succ k ihk =>
                  intro h1 h2
                  rcases Nat.lt_or_ge i k with h3 | h3
                  · have hok2 : ops[k]? = some ops[k] := List.getElem?_eq_getElem (by omega)
                    exact agTrans (wrT k _ hok2 loc (hno k h3 (by omega) _ (hseq k _ hok2).2.2)) (ihk (by omega) (by omega))
                  · have : k = i := by omega
                    subst this; exact Agree.refl _ _
              exact agTrans ((hS3 loc).1 hin') (agSymm (hsteps m (by omega) (Nat.le_refl _)))
            · exact agTrans ((hS3 loc).2 hin') (hmem loc m hm fun j e hj hloc=>by
                have hji:i ≠ j:=fun e'=>by
                  subst e'
                  rw [hlg] at hj; injection hj with hj; subst hj
                  exact hin' hloc
                have:=hw j e hj hloc
                rw [hset,if_neg hji] at this
                exact this)
        unfold stepA at hst
        unfold wpOp
        simp only [List.getElem?_toArray,ho]
        split at hst
        · rename_i hg
          rw [hgrd true hg]
          simp only [if_true]
          -- known slots alone
          let Tk:List AV:=(List.range T'.length).map fun t=>if (o.looksAt ops.toArray).contains t then (Ts i).getD t (.tup []) else .junk
          have hTil:(Ts i).length = T'.length:=by rw [hTlen,htz]
          have hTk:TR E w Tk a.tmps:=by
            refine ⟨by simp [Tk,htz],fun t c v hc hv=>?_⟩
            simp only [Tk,List.getElem?_map] at hc
            by_cases ht:t < T'.length
            · rw [List.getElem?_range ht] at hc
              simp only [Option.map_some,Option.some.injEq] at hc
              subst hc
              split
              · rename_i hk
                refine hlook t (by simpa using hk) _ v ?_ hv
                rw [List.getD_eq_getElem?_getD,List.getElem?_eq_getElem (by omega)]; rfl
              · exact .junk v
            · rw [List.getElem?_eq_none (by simpa using ht)] at hc; cases hc
          have hev:∀ x ∈ o.op.operands,evA G (Ts i) x = evA G Tk x:=fun x hx=>by
            cases x with
            | tmp t =>
              have hmem:t ∈ o.looksAt ops.toArray:=by
                unfold Oper.looksAt
                exact List.mem_append_left _ (List.mem_filterMap.2 ⟨.tmp t,by simpa using hx,rfl⟩)
              have hc:(o.looksAt ops.toArray).contains t = true:=by simpa using hmem
              simp only [evA,List.getD_eq_getElem?_getD]
              simp only [Tk,List.getElem?_map]
              by_cases ht:t < T'.length
              · rw [List.getElem?_range ht]
                simp only [Option.map_some,Option.getD_some]
                rw [if_pos hc,List.getD_eq_getElem?_getD]
              · have hz : (Ts i)[t]? = none := List.getElem?_eq_none (by rw [hTil]; exact Nat.le_of_not_lt ht)
                have hz2:(List.range T'.length)[t]? = none:=List.getElem?_eq_none (by simpa using ht)
                rw [hz,hz2]; rfl
            | _=>rfl
          have htouch:∀ loc ∈ touchA (evA G (Ts i)) (bs i) (lkOf lk (evA G (Ts i)) o.op || effA (Ss i) (Ss (i + 1))) o.op,Agree loc S (Ss i):=fun loc hloc=>by
            refine hmem loc i (by omega) fun j e hj hlw=>?_
            have hlgt:loc ∈ (entA G lk ops (Ts i) (bs i) (Ss i) (Ss (i + 1)) o).1:=by unfold entA; rw [if_pos hg]; exact hloc
            constructor
            · intro hL
              rcases Nat.lt_trichotomy j i with h | h | h
              · exact h
              · subst h; rw [hnot] at hL; cases hL
              · have hd := ok3 i j _ e loc hlg hj h (.inr ⟨hlgt, hlw⟩)
                obtain ⟨o2,e',h1,h2,h3,h4⟩:=dir j i hd
                have:=hcl j o2 e' h1 hL h2 h3
                rw [h4,hnot] at this; cases this
            · intro hlt
              exact hdirL j (ok3 j i e _ loc hj hlg hlt (.inl ⟨hlw,hlgt⟩))
          obtain ⟨S3,hop,hS3⟩:=opA_local hlc hlk hst htouch
          rw [opA_congr hev] at hop
          refine .inl (op_wp hR hC hSR hTk hop fun E' w' v h1 h2 h3=>?_)
          refine next _ w' S3 E' _ v rfl rfl h1 h2 h3 fun loc=>?_
          unfold entA
          rw [if_pos hg]
          exact ⟨(hS3 loc).1,fun hn=>((hS3 loc).2 hn).1⟩
        · rename_i hg
          rw [hgrd false hg]
          simp only [Bool.false_eq_true,if_false]
          simp only [Option.some.injEq,Prod.mk.injEq] at hst
          refine next _ w S E _ undef rfl rfl hSR (Env.Le.refl _ _) (by rw [← hst.1]; exact rep_undef) fun loc=>?_
          unfold entA
          rw [if_neg (by rw [hg]; simp)]
          exact ⟨fun h=>by simp at h,fun _=>Agree.refl _ _⟩
        · cases hst
  refine wp_region_any hm ?_
  obtain ⟨hS1,hL1⟩:=hS.ext (w':=w1.drew) (below_drew w1) (I':=E0.I) (fun _ _ h=>h) (fun _ _ h=>.inl h)
  refine key ops.toArray.size (Array.replicate ops.toArray.size false) a0 w1.drew S0 E0 (by simp) (Nat.le_trans List.countP_le_length (by simp)) (fun j o e _ hL=>by simp [Array.getD] at hL) (by rw [← e3,hlen _ (Nat.le_refl _)]; exact hT.1) (fun t c v hc hv hw=>?_) (fun t c v hc hv _=>(hT.2 t c v hc hv).le hL1) (fun loc m hm' hw=>?_) hS1 hL1 rfl
  · have hnw:∀ j oj,ops[j]? = some oj→oj.dst = some t→j < 0:=fun j oj hj hd=>by
      have:=hw j oj hj hd
      simp [Array.getD] at this
    rw [← e3,stay t 0 hnw ops.length (by omega) (Nat.le_refl _),e1] at hc
    exact (hT.2 t c v hc hv).le hL1
  · have hsteps:∀ k,k≤m→Agree loc (Ss k) (Ss 0):=fun k=>by
      induction k with
      | zero=>intro _; exact Agree.refl _ _
      | succ k ihk =>
        intro h1
        have hok2:ops[k]? = some ops[k]:=List.getElem?_eq_getElem (by omega)
        refine agTrans (wrT k _ hok2 loc fun hloc=>?_) (ihk (by omega))
        have:=(hw k _ (hseq k _ hok2).2.2 hloc).2 (by omega)
        simp [Array.getD] at this
    rw [← e2]
    exact agSymm (hsteps m (Nat.le_refl _))
end
inductive AExit where
 | normal
 | exit (id:Nat)
 | goto (l:Nat)
 | ret
def AExit.to:AExit→Exit
 | .normal=>.normal
 | .exit id=>.exit id
 | .goto l=>.goto l
 | .ret=>.ret
abbrev ARes:=Option (AExit × List AV × St)
abbrev AStep:=List AV→St→ARes
def regionA (P:Program) (G:Glob) (R:Callee) (C:ICallee) (ops:List Oper) (draw:Bool) (T:List AV) (S:St):Option (List AV × St):=
 if draw then
  if drawOk ops then
   match logA P G R noC (fun _=>false) ops ops S.boxes.length T (roomFor ops S) with
   | some (lg,T',S')=>if confOk ops lg then some (T',S') else none
   | none=>none
  else none
 else listA P G R C ops ops S.boxes.length T (roomFor ops S)
def maskA:List Bool→List AV→List AV
 | true :: m,c :: T=>c :: maskA m T
 | false :: m,_ :: T=>.junk :: maskA m T
 | _,T=>T
structure Loops where
 loop:AStep→AStep
 scope:AStep→(Nat→Option AStep)→AStep
def seqA (r:ARes) (k:AStep):ARes:=
 match r with
 | some (.normal,T,S)=>k T S
 | r=>r
def blockA (id:Nat) (r:ARes):ARes:=
 match r with
 | some (.exit id',T,S)=>if id' = id then some (.normal,T,S) else some (.exit id',T,S)
 | r=>r
mutual
def codeA (P:Program) (G:Glob) (R:Callee) (C:ICallee) (L:Loops) (m:List Bool):Code→AStep
 | .skip=>fun T S=>some (.normal,T,S)
 | .region _ ops draw=>fun T S =>
  match regionA P G R C ops.toList draw T S with
  | some (T',S')=>some (.normal,maskA m T',S')
  | none=>none
 | .seq a b=>fun T S=>seqA (codeA P G R C L m a T S) (codeA P G R C L m b)
 | .cond c x y=>fun T S =>
  match evA G T c with
  | .bool true=>codeA P G R C L m x T S
  | .bool false=>codeA P G R C L m y T S
  | _=>none
 | .block id b=>fun T S=>blockA id (codeA P G R C L m b T S)
 | .loop b=>L.loop (codeA P G R C L m b)
 | .exit id=>fun T S=>some (.exit id,T,S)
 | .scope b=>L.scope (codeA P G R C L m b) (fromA P G R C L m b)
 | .label _=>fun T S=>some (.normal,T,S)
 | .goto l=>fun T S=>some (.goto l,T,S)
 | .ret=>fun T S=>some (.ret,T,S)
 | .rangeFunc ..=>fun _ _=>none
 | .refuse _=>fun _ _=>none
def fromA (P:Program) (G:Glob) (R:Callee) (C:ICallee) (L:Loops) (m:List Bool):Code→Nat→Option AStep
 | .seq a b=>fun l =>
  match fromA P G R C L m a l with
  | some f=>some fun T S=>seqA (f T S) (codeA P G R C L m b)
  | none=>fromA P G R C L m b l
 | .label l'=>fun l=>if l' == l then some fun T S=>some (.normal,T,S) else none
 | _=>fun _=>none
end
def iterA:Nat→AStep→AStep
 | 0,_=>fun _ _=>none
 | n + 1,f=>fun T S=>seqA (f T S) (iterA n f)
def scopeA:Nat→AStep→(Nat→Option AStep)→AStep
 | 0,_,_=>fun _ _=>none
 | n + 1,f,k=>fun T S =>
  match f T S with
  | some (.goto l,T',S') =>
   match k l with
   | some g=>scopeA n g k T' S'
   | none=>some (.goto l,T',S')
  | r=>r
def fuelL (n:Nat):Loops:=⟨iterA n,scopeA n⟩
def resultA (P:Program) (T:List AV) (S:St):ResultVar→Option AV
 | .tmp t=>some (T.getD t (.tup []))
 | .cell a t =>
  match T.getD a (.tup []) with
  | .ptr b o=>loadA P S t (.ptr b o)
  | _=>none
def resultsA (P:Program) (T:List AV) (S:St):List ResultVar→Option (List AV)
 | []=>some []
 | r :: l =>
  match resultA P T S r with
  | some v =>
   match resultsA P T S l with
   | some vs=>some (v :: vs)
   | none=>none
  | none=>none
def packA:List AV→AV
 | [v]=>v
 | vs=>.tup vs
def normA (live:List (Nat × TypeId)):AV→Option (AV × List (Nat × TypeId))
 | .sl sz es (.tok t) =>
  match live[t]? with
  | some (n,e)=>if n = es.length then some (.sl sz es (.tok 0),[(n,e)]) else some (.sl sz es .no,[])
  | none=>none
 | .tup (.sl sz es (.tok t) :: vs) =>
  if (vs.map AV.strip1).all AV.closed1 then
   match live[t]? with
   | some (n,e)=>if n = es.length then some (.tup (.sl sz es (.tok 0) :: vs.map AV.strip1),[(n,e)]) else some (.tup (.sl sz es .no :: vs.map AV.strip1),[])
   | none=>none
  else none
 | .tup vs=>if (vs.map AV.strip1).all AV.closed1 then some (.tup (vs.map AV.strip1),[]) else none
 | r=>if r.strip1.closed1 then some (r.strip1,[]) else none
def AV.p0 (n:Nat):AV→Bool
 | .ptr b _=>decide (b < n)
 | .mp b=>decide (b < n)
 | .ms b _ _=>decide (b < n)
 | .mel b _ _ _=>decide (b < n)
 | .mst b _ _ _=>decide (b < n)
 | .fn _ cap=>cap.isEmpty
 | .agg _ | .tup _=>false
 | _=>true
def AV.p1 (n:Nat):AV→Bool
 | .fn _ cap=>cap.all (AV.p0 n)
 | .agg cs=>cs.all (AV.p0 n)
 | v=>v.p0 n
def AV.p2 (n:Nat):AV→Bool
 | .tup vs=>vs.all (AV.p1 n)
 | .agg cs=>cs.all (AV.p1 n)
 | v=>v.p1 n
def runA (P:Program) (G:Glob) (R:Callee) (C:ICallee) (L:Loops) (hint:FuncId→List Bool) (f:FuncId) (args:List AV) (S:St):Option (AV × St):=
 match P.funcs[f]? with
 | none=>none
 | some fn =>
  match fn.body with
  | none=>none
  | some c =>
   if fn.name == "runtime.NumGoroutine" then none else
   match codeA P G R C L (hint f) c (args ++ List.replicate (fn.ntmps - args.length) (.tup [])) S with
   | some (.normal,T,S') | some (.ret,T,S') =>
    match resultsA P T S' fn.results.toList with
    | some vs=>some (packA vs,S')
    | none=>none
   | _=>none
def funcA (P:Program) (G:Glob) (R:Callee) (C:ICallee) (L:Loops) (hint:FuncId→List Bool) (f:FuncId) (args:List AV):Option (AV × List (Nat × TypeId)):=
 match runA P G R C L hint f args ⟨[],[]⟩ with
 | some (r,S) =>
  match giveA S r with
  | some (r',S')=>normA S'.live r'
  | none=>none
 | none=>none
def boxesOk (n:Nat):List (Option (List AV))→Bool
 | []=>true
 | some cs :: l=>(!isRow cs || cs.all (AV.p1 n)) && boxesOk n l
 | none :: l=>boxesOk n l
def funcI (P:Program) (G:Glob) (R:Callee) (C:ICallee) (L:Loops) (hint:FuncId→List Bool) (f:FuncId) (args:List AV) (S:St):Option (AV × St):=
 match runA P G R C L hint f args S with
 | some (r,S') =>
  if r.p2 S.boxes.length && boxesOk S.boxes.length (S'.boxes.take S.boxes.length) then some (r,{ S' with boxes:=S'.boxes.take S.boxes.length }) else none
 | none=>none
def funcJ (P:Program) (G:Glob) (R:Callee) (C:ICallee) (L:Loops) (hint:FuncId→List Bool) (f:FuncId) (args:List AV) (S:St):Option (AV × St):=
 if (args.map AV.strip1).all AV.closed1 then none else funcI P G R C L hint f args S
def orA (R0 R:Callee):Callee:=fun f args =>
 match R0 f args with
 | some r=>some r
 | none=>R f args
def evs (P:Program) (G:Glob) (R0:Callee) (hint:FuncId→List Bool):Nat→Callee × ICallee
 | 0=>(R0,noC)
 | n + 1=>(orA R0 (funcA P G (evs P G R0 hint n).1 (evs P G R0 hint n).2 (fuelL n) hint),funcJ P G (evs P G R0 hint n).1 (evs P G R0 hint n).2 (fuelL n) hint)
section
variable {P : Program} {G : Glob} {N0 : Nat → Prop} {w0 : World} {I0 : Nat → Nat → Prop}
theorem TR.mask {E:Env} {w:World}:∀ (m:List Bool) (T:List AV) (tm:List Value),(T.length = tm.length∧∀ (i:Nat) (c:AV) (v:Value),T[i]? = some c→tm[i]? = some v→Rep E w c v) →
  (maskA m T).length = tm.length∧∀ (i:Nat) (c:AV) (v:Value),(maskA m T)[i]? = some c→tm[i]? = some v→Rep E w c v
 | [],T,tm,h=>by simpa [maskA] using h
 | b :: m,[],tm,h=>by cases b <;> simpa [maskA] using h
 | b :: m,c :: T,[],h=>by have:=h.1; simp at this
 | b :: m,c :: T,v :: tm,h=>by
  obtain ⟨h1,h2⟩:=TR.mask m T tm ⟨by simpa using h.1,fun i c v hi hv=>h.2 (i + 1) c v (by simpa using hi) (by simpa using hv)⟩
  cases b
  ·refine ⟨by simp [maskA,h1],fun i c' v' hi hv=>?_⟩
   match i,hi,hv with
   | 0,hi,hv=>simp [maskA] at hi; subst hi; exact .junk _
   | i + 1,hi,hv=>exact h2 i c' v' (by simpa [maskA] using hi) (by simpa using hv)
  ·refine ⟨by simp [maskA,h1],fun i c' v' hi hv=>?_⟩
   match i,hi,hv with
   | 0,hi,hv=>exact h.2 0 c' v' (by simpa [maskA] using hi) (by simpa using hv)
   | i + 1,hi,hv=>exact h2 i c' v' (by simpa [maskA] using hi) (by simpa using hv)
theorem TR.mask' {E:Env} {w:World} {T:List AV} {tm:Array Value} (h:TR E w T tm) (m:List Bool):TR E w (maskA m T) tm:=by
 obtain ⟨h1,h2⟩:=TR.mask m T tm.toList ⟨by simpa using h.1,fun i c v hi hv=>h.2 i c v hi (by simpa using hv)⟩
 exact ⟨by simpa using h1,fun i c v hi hv=>h2 i c v hi (by simpa using hv)⟩
def StepOk (P:Program) (G:Glob) (N0:Nat→Prop) (w0:World) (I0:Nat→Nat→Prop) (f:AStep) (c:Code):Prop:=
 ∀ (T:List AV) (S:St) (x:AExit) (T':List AV) (S':St) (E:Env) (a:Act) (w:World) (Q:Exit→Act→World→Prop),f T S = some (x,T',S')→SR P G N0 w0 I0 S E w→TR E w T a.tmps →
  (∀ E' w' a',SR P G N0 w0 I0 S' E' w'→Env.Le E E' w w'→TR E' w' T' a'.tmps→a'.defers = a.defers→Q x.to a' w')→c.wp P Q a w
theorem regionA_wp {R:Callee} {C:ICallee} (hm:P.follows .mixedOrders = true) (hR:CalleeOk P G R) (hC:ICalleeOk P G C) {id:Nat} {ops:Array Oper} {draw:Bool} {m:List Bool} :
  StepOk P G N0 w0 I0 (fun T S=>match regionA P G R C ops.toList draw T S with | some (T',S')=>some (.normal,maskA m T',S') | none=>none) (.region id ops draw):=by
 intro T S x T' S' E a w Q h hS hT hQ
 dsimp only at h
 split at h
 ·rename_i T1 S1 hr
  simp only [Option.some.injEq,Prod.mk.injEq] at h
  obtain ⟨rfl,rfl,rfl⟩:=h
  unfold regionA at hr
  split at hr
  ·rename_i hd
   subst hd
   split at hr
   ·rename_i hok
    split at hr
    ·rename_i lg T2 S2 hlog
     split at hr
     ·rename_i hc
      simp only [Option.some.injEq,Prod.mk.injEq] at hr
      obtain ⟨rfl,rfl⟩:=hr
      have:=drawA_wp (id:=id) hm hR noC_ok noC_loc (fun _ _ _ _=>rfl) hok hlog hc (hS.roomFor ops.toList) hT (Q:=Q) fun E' w' a' h1 h2 h3 h4=>hQ E' w' a' h1 h2 (h3.mask' m) h4
      simpa using this
     ·cases hr
    ·cases hr
   ·cases hr
  ·rename_i hd
   have hd':draw = false:=by simpa using hd
   subst hd'
   refine wp_region_list ?_
   have:=listA_wp (P:=P) (G:=G) (N0:=N0) (w0:=w0) (I0:=I0) hR hC (Q:=Q) ops.toList _ T T1 _ S1 E a w (hS.roomFor ops.toList) hT hr fun E' w' a' h1 h2 h3 h4=>hQ E' w' a' h1 h2 (h3.mask' m) h4
   simpa using this
 ·cases h
theorem seqA_wp {f g:AStep} {c d:Code} (hf:StepOk P G N0 w0 I0 f c) (hg:StepOk P G N0 w0 I0 g d):StepOk P G N0 w0 I0 (fun T S=>seqA (f T S) g) (.seq c d):=by
 intro T S x T' S' E a w Q h hS hT hQ
 dsimp only at h
 unfold seqA at h
 split at h
 ·rename_i T1 S1 h1
  exact wp_seq (hf _ _ _ _ _ E a w _ h1 hS hT fun E' w' a' k1 k2 k3 k4=>hg _ _ _ _ _ E' a' w' Q h k1 k3 fun E2 w2 a2 l1 l2 l3 l4=>hQ E2 w2 a2 l1 (k2.trans l2) l3 (l4.trans k4))
 ·rename_i hne
  refine wp_seq (hf _ _ _ _ _ E a w _ h hS hT fun E' w' a' k1 k2 k3 k4=>?_)
  have:=hQ E' w' a' k1 k2 k3 k4
  cases x with
  | normal=>exact absurd h (hne _ _)
  | exit id=>exact this
  | goto l=>exact this
  | ret=>exact this
theorem blockA_wp {f:AStep} {c:Code} {id:Nat} (hf:StepOk P G N0 w0 I0 f c):StepOk P G N0 w0 I0 (fun T S=>blockA id (f T S)) (.block id c):=by
 intro T S x T' S' E a w Q h hS hT hQ
 dsimp only at h
 unfold blockA at h
 split at h
 ·rename_i id' T1 S1 h1
  refine wp_block (hf _ _ _ _ _ E a w _ h1 hS hT fun E' w' a' k1 k2 k3 k4=>?_)
  show (if id' = id then Q .normal a' w' else Q (.exit id') a' w')
  split at h
  ·rename_i hid
   simp only [Option.some.injEq,Prod.mk.injEq] at h
   obtain ⟨rfl,rfl,rfl⟩:=h
   rw [if_pos hid]; exact hQ E' w' a' k1 k2 k3 k4
  ·rename_i hid
   simp only [Option.some.injEq,Prod.mk.injEq] at h
   obtain ⟨rfl,rfl,rfl⟩:=h
   rw [if_neg hid]; exact hQ E' w' a' k1 k2 k3 k4
 ·rename_i hne
  refine wp_block (hf _ _ _ _ _ E a w _ h hS hT fun E' w' a' k1 k2 k3 k4=>?_)
  have:=hQ E' w' a' k1 k2 k3 k4
  cases x with
  | exit id'=>exact absurd h (hne _ _ _)
  | normal=>exact this
  | goto l=>exact this
  | ret=>exact this
theorem iterA_wp {f:AStep} {c:Code} (hf:StepOk P G N0 w0 I0 f c) (n:Nat):StepOk P G N0 w0 I0 (iterA n f) (.loop c):=by
 intro T S x T' S' E a w Q h hS hT hQ
 refine wp_loop_rounds n ?_
 have key:∀ (n:Nat) (T:List AV) (S:St) (E:Env) (a:Act) (w:World),iterA n f T S = some (x,T',S')→SR P G N0 w0 I0 S E w→TR E w T a.tmps →
   (∀ E' w' a',SR P G N0 w0 I0 S' E' w'→Env.Le E E' w w'→TR E' w' T' a'.tmps→a'.defers = a.defers→Q x.to a' w')→Code.rounds P c Q n a w:=by
  intro n
  induction n with
  | zero=>intro T S E a w h; simp [iterA] at h
  | succ n ih =>
   intro T S E a w h hS hT hQ
   rw [rounds_succ]
   simp only [iterA] at h
   unfold seqA at h
   split at h
   ·rename_i T1 S1 h1
    exact hf _ _ _ _ _ E a w _ h1 hS hT fun E' w' a' k1 k2 k3 k4=>ih _ _ E' a' w' h k1 k3 fun E2 w2 a2 l1 l2 l3 l4=>hQ E2 w2 a2 l1 (k2.trans l2) l3 (l4.trans k4)
   ·rename_i hne
    refine hf _ _ _ _ _ E a w _ h hS hT fun E' w' a' k1 k2 k3 k4=>?_
    have:=hQ E' w' a' k1 k2 k3 k4
    cases x with
    | normal=>exact absurd h (hne _ _)
    | exit id=>exact this
    | goto l=>exact this
    | ret=>exact this
 exact key n T S E a w h hS hT hQ
def srounds (P:Program) (b:Code) (Q:Exit→Act→World→Prop):Nat→Code→Act→World→Prop
 | 0,_,_,_=>False
 | n + 1,c,a,w=>c.wp P (fun e a' w'=>match e with
  | .goto l=>match findLabel b l with
   | some rest=>srounds P b Q n rest a' w'
   | none=>Q (.goto l) a' w'
  | e=>Q e a' w') a w
theorem wp_scope_rounds {b:Code} {Q:Exit→Act→World→Prop} {a:Act} {w:World} (n:Nat) (h:srounds P b Q n b a w):(Code.scope b).wp P Q a w:=by
 intro fr k cs
 have key:∀ n c a w,srounds P b Q n c a w→∃ e a' w',Q e a' w'∧Arrives P (lone (fr.at a (.code c :: .inScope b :: k)) cs w) fr k cs e a' w':=by
  intro n
  induction n with
  | zero=>intro c a w h; exact h.elim
  | succ n ih =>
   intro c a w h
   obtain ⟨e,a₁,w₁,hq,harr⟩:=h fr (.inScope b :: k) cs
   cases e with
   | normal=>exact ⟨.normal,a₁,w₁,hq,Steps.trans harr (.one step_inScope)⟩
   | exit id=>exact ⟨.exit id,a₁,w₁,hq,fun k' hk=>harr k' (by simp [exitTo,hk])⟩
   | goto l =>
    simp only at hq
    split at hq
    ·rename_i rest hr
     obtain ⟨e₂,a₂,w₂,hq₂,harr₂⟩:=ih rest a₁ w₁ hq
     exact ⟨e₂,a₂,w₂,hq₂,.of_steps (harr _ (by simp [gotoIn,hr])) harr₂⟩
    ·rename_i hr
     exact ⟨.goto l,a₁,w₁,hq,fun k' hk=>harr k' (by simp [gotoIn,hr,hk])⟩
   | ret=>exact ⟨_,a₁,w₁,hq,harr⟩
   | panic ch=>exact ⟨_,a₁,w₁,hq,harr⟩
   | outgrown=>exact ⟨_,a₁,w₁,hq,harr⟩
 obtain ⟨e,a',w',hq,harr⟩:=key n b a w h
 exact ⟨e,a',w',hq,.of_steps (.one step_scope) harr⟩
theorem scopeA_wp {b:Code} {k:Nat→Option AStep} (hk:∀ l,(∀ g,k l = some g→∃ rest,findLabel b l = some rest∧StepOk P G N0 w0 I0 g rest)∧(k l = none→findLabel b l = none)) {f:AStep} (hf:StepOk P G N0 w0 I0 f b) (n:Nat) :
  StepOk P G N0 w0 I0 (scopeA n f k) (.scope b):=by
 intro T S x T' S' E a w Q h hS hT hQ
 refine wp_scope_rounds n ?_
 have key:∀ (n:Nat) (f:AStep) (c:Code) (T:List AV) (S:St) (E:Env) (a:Act) (w:World),StepOk P G N0 w0 I0 f c→scopeA n f k T S = some (x,T',S')→SR P G N0 w0 I0 S E w→TR E w T a.tmps →
   (∀ E' w' a',SR P G N0 w0 I0 S' E' w'→Env.Le E E' w w'→TR E' w' T' a'.tmps→a'.defers = a.defers→Q x.to a' w')→srounds P b Q n c a w:=by
  intro n
  induction n with
  | zero=>intro f c T S E a w _ h; simp [scopeA] at h
  | succ n ih =>
   intro f c T S E a w hf h hS hT hQ
   simp only [scopeA] at h
   split at h
   ·rename_i l T1 S1 h1
    refine hf _ _ _ _ _ E a w _ h1 hS hT fun E' w' a' k1 k2 k3 k4=>?_
    simp only [AExit.to]
    split at h
    ·rename_i g hg
     obtain ⟨rest,hr,hgo⟩:=(hk l).1 g hg
     rw [hr]
     exact ih g rest _ _ E' a' w' hgo h k1 k3 fun E2 w2 a2 l1 l2 l3 l4=>hQ E2 w2 a2 l1 (k2.trans l2) l3 (l4.trans k4)
    ·rename_i hg
     rw [(hk l).2 hg]
     simp only [Option.some.injEq,Prod.mk.injEq] at h
     obtain ⟨rfl,rfl,rfl⟩:=h
     exact hQ E' w' a' k1 k2 k3 k4
   ·rename_i hne
    refine hf _ _ _ _ _ E a w _ h hS hT fun E' w' a' k1 k2 k3 k4=>?_
    have:=hQ E' w' a' k1 k2 k3 k4
    cases x with
    | goto l=>exact absurd h (hne _ _ _)
    | normal=>exact this
    | exit id=>exact this
    | ret=>exact this
 exact key n f b T S E a w hf h hS hT hQ
theorem skip_ok (x:AExit) (c:Code) (h:∀ (Q:Exit→Act→World→Prop) (a:Act) (w:World),Q x.to a w→c.wp P Q a w):StepOk P G N0 w0 I0 (fun T S=>some (x,T,S)) c:=by
 intro T S x' T' S' E a w Q hh hS hT hQ
 simp only [Option.some.injEq,Prod.mk.injEq] at hh
 obtain ⟨rfl,rfl,rfl⟩:=hh
 exact h Q a w (hQ E w a hS (Env.Le.refl _ _) hT rfl)
theorem codeA_wp {R:Callee} {C:ICallee} (hm:P.follows .mixedOrders = true) (hR:CalleeOk P G R) (hC:ICalleeOk P G C) (n:Nat) (m:List Bool):∀ (c:Code),StepOk P G N0 w0 I0 (codeA P G R C (fuelL n) m c) c ∧
  ∀ l,(∀ g,fromA P G R C (fuelL n) m c l = some g→∃ rest,findLabel c l = some rest∧StepOk P G N0 w0 I0 g rest)∧(fromA P G R C (fuelL n) m c l = none→findLabel c l = none):=by
 intro c
 induction c with
 | skip=>exact ⟨by rw [codeA]; exact skip_ok .normal _ fun Q a w h=>wp_skip h,fun l=>⟨fun g h=>by simp [fromA] at h,fun _=>rfl⟩⟩
 | region id ops draw=>exact ⟨by rw [codeA]; exact regionA_wp hm hR hC,fun l=>⟨fun g h=>by simp [fromA] at h,fun _=>rfl⟩⟩
 | seq a b iha ihb =>
  refine ⟨by rw [codeA]; exact seqA_wp iha.1 ihb.1,fun l=>⟨fun g h=>?_,fun h=>?_⟩⟩
  ·simp only [fromA] at h
   split at h
   ·rename_i f hf
    simp only [Option.some.injEq] at h
    subst h
    obtain ⟨rest,hr,hok⟩:=(iha.2 l).1 f hf
    exact ⟨.seq rest b,by simp [findLabel,hr],seqA_wp hok ihb.1⟩
   ·rename_i hf
    obtain ⟨rest,hr,hok⟩:=(ihb.2 l).1 g h
    exact ⟨rest,by simp [findLabel,(iha.2 l).2 hf,hr],hok⟩
  ·simp only [fromA] at h
   split at h
   ·cases h
   ·rename_i hf
    simp [findLabel,(iha.2 l).2 hf,(ihb.2 l).2 h]
 | cond c x y ihx ihy =>
  refine ⟨?_,fun l=>⟨fun g h=>by simp [fromA] at h,fun _=>rfl⟩⟩
  rw [codeA]
  intro T S e T' S' E a w Q h hS hT hQ
  have hc:=evA_rep hS.glob hT c
  simp only at h
  split at h
  ·rename_i he
   rw [he] at hc
   exact wp_cond (rep_bool hc) (by simpa using ihx.1 _ _ _ _ _ E a w Q h hS hT hQ)
  ·rename_i he
   rw [he] at hc
   exact wp_cond (rep_bool hc) (by simpa using ihy.1 _ _ _ _ _ E a w Q h hS hT hQ)
  ·cases h
 | block id b ih=>exact ⟨by rw [codeA]; exact blockA_wp ih.1,fun l=>⟨fun g h=>by simp [fromA] at h,fun _=>rfl⟩⟩
 | loop b ih=>exact ⟨by rw [codeA]; exact iterA_wp ih.1 n,fun l=>⟨fun g h=>by simp [fromA] at h,fun _=>rfl⟩⟩
 | rangeFunc f ps ar b _ _=>exact ⟨(by rw [codeA]; intro T S x T' S' E a w Q h; exact nomatch h),fun l=>⟨fun g h=>by simp [fromA] at h,fun _=>rfl⟩⟩
 | exit id=>exact ⟨by rw [codeA]; exact skip_ok (.exit id) _ fun Q a w h=>wp_exit h,fun l=>⟨fun g h=>by simp [fromA] at h,fun _=>rfl⟩⟩
 | scope b ih=>exact ⟨by rw [codeA]; exact scopeA_wp ih.2 ih.1 n,fun l=>⟨fun g h=>by simp [fromA] at h,fun _=>rfl⟩⟩
 | label l' =>
  refine ⟨by rw [codeA]; exact skip_ok .normal _ fun Q a w h=>wp_label h,fun l=>⟨fun g h=>?_,fun h=>?_⟩⟩
  ·simp only [fromA] at h
   split at h
   ·rename_i he
    simp only [Option.some.injEq] at h
    subst h
    exact ⟨.skip,by simp [findLabel,he],skip_ok .normal _ fun Q a w h=>wp_skip h⟩
   ·cases h
  ·simp only [fromA] at h
   split at h
   ·cases h
   ·rename_i he
    simp [findLabel,he]
 | goto l'=>exact ⟨by rw [codeA]; exact skip_ok (.goto l') _ fun Q a w h=>wp_goto h,fun l=>⟨fun g h=>by simp [fromA] at h,fun _=>rfl⟩⟩
 | ret=>exact ⟨by rw [codeA]; exact skip_ok .ret _ fun Q a w h=>wp_ret h,fun l=>⟨fun g h=>by simp [fromA] at h,fun _=>rfl⟩⟩
 | refuse s=>exact ⟨(by rw [codeA]; intro T S x T' S' E a w Q h; exact nomatch h),fun l=>⟨fun g h=>by simp [fromA] at h,fun _=>rfl⟩⟩
end
section
variable {P : Program} {E : Env} {w w' : World} {G : Glob} {N0 : Nat → Prop} {w0 : World} {I0 : Nat → Nat → Prop} {S : St}
theorem SR.box_take (h:SR P G N0 w0 I0 S E w) (bid:Nat) (hbid:S.boxes[bid]? = some none) (cs:List AV) (g:Nat) (hg:¬ N0 g) (hg2:g < w.heap.size) (hI:∀ o,¬ E.I g o) (hBn:∀ id,E.B id ≠ some g) (hK:∀ t n v,E.K t n v→v.ownBlock ≠ some g) (hc:BoxAt P E w g cs) :
  ∃ E',SR P G N0 w0 I0 { S with boxes:=S.boxes.set bid (some cs) } E' w∧Env.Le E E' w w∧E'.B bid = some g:=by
 have hlt:bid < S.boxes.length:=(List.getElem?_eq_some_iff.1 hbid).1
 have hnone:∀ id b,E.B id = some b→id ≠ bid:=fun id b he e=>by subst e; rw [h.hole id hbid] at he; cases he
 let E':Env:=⟨E.I,fun id=>if id = bid then some g else E.B id,E.K⟩
 have hle:Env.Le E E' w w:=⟨fun b o hi=>⟨hi,rfl⟩,fun b x hx=>by
  show (if b = bid then some g else E.B b) = some x
  rw [if_neg (hnone b x hx)]; exact hx,fun _ _ _ h=>h,fun _ _ _=>rfl⟩
 refine ⟨E',⟨h.below,h.n0,h.Ilt,h.Iold,fun id b he=>?_,fun id id' b he he'=>?_,fun id cs' hi=>?_,h.glob.le hle,fun id hi=>?_,h.Klt,h.Kblk,fun t n e ht=>?_⟩,hle,by
  show (if bid = bid then some g else _) = _
  rw [if_pos rfl]⟩
 ·have he':(if id = bid then some g else E.B id) = some b:=he
  split at he'
  ·rename_i e
   injection he' with he'
   subst he'
   subst e
   exact ⟨by simpa using hlt,hg,hg2,fun o ho=>absurd ho (hI o)⟩
  ·rename_i hne
   obtain ⟨a1,a2,a3,a4⟩:=h.Blt id b he'
   exact ⟨by simpa using a1,a2,a3,fun o ho=>(a4 o ho).set (Ne.symm hne)⟩
 ·have e1:(if id = bid then some g else E.B id) = some b:=he
  have e2:(if id' = bid then some g else E.B id') = some b:=he'
  split at e1 <;> split at e2
  ·omega
  ·injection e1 with e1
   subst e1
   exact absurd e2 (hBn id')
  ·injection e2 with e2
   subst e2
   exact absurd e1 (hBn id)
  ·exact h.Binj id id' b e1 e2
 ·simp only [List.getElem?_set] at hi
  by_cases hid:bid = id
  ·subst hid
   simp [hlt] at hi
   subst hi
   refine ⟨g,?_,hc.le rfl hle⟩
   show (if bid = bid then some g else _) = _
   rw [if_pos rfl]
  ·simp [hid] at hi
   obtain ⟨blk,hB,hx⟩:=h.box id cs' hi
   exact ⟨blk,hle.B _ _ hB,hx.le rfl hle⟩
 ·simp only [List.getElem?_set] at hi
  by_cases hid:bid = id
  ·subst hid
   simp [hlt] at hi
  ·simp [hid] at hi
   show (if id = bid then some g else E.B id) = none
   rw [if_neg (Ne.symm hid)]; exact h.hole id hi
 ·obtain ⟨v,xs,sz,hsz,hown,hu,hKK,hgg⟩:=h.live t n e ht
  refine ⟨v,xs,sz,hsz,hown,hu,hKK,fun g' hg'=>?_⟩
  obtain ⟨a1,a2,a3⟩:=hgg g' hg'
  refine ⟨a1,fun id he=>?_,a3⟩
  have he':(if id = bid then some g else E.B id) = some g':=he
  split at he'
  ·injection he' with he'
   subst he'
   exact hK t n v hKK hg'
  ·exact a2 id he'
end
section
variable {P : Program} {G : Glob}
theorem SR.take_new {N0:Nat→Prop} {w0:World} {I0:Nat→Nat→Prop} {S:St} {E:Env} {w w':World} (hS:SR P G N0 w0 I0 S E w) {e:TypeId} {sz n:Nat} {v:Value} {xs:List Value} {es:List AV} (hb:Below w.heap.size w w') (hown:w'.ownsRow w.heap.size e sz v n xs) (hv:v ≠ .slice none 0 0) (_hn:es.length = n) (hvals':Vals E w' sz es xs) :
  ∃ E',SR P G N0 w0 I0 { S with boxes:=S.boxes ++ [some (ownC sz es)] } E' w'∧Env.Le E E' w w'∧Rep E' w' (.ms S.boxes.length sz n) v:=by
 rcases hown.2 with ⟨hv',_⟩ | ⟨g,cap,cur,rfl,hbase,hbk,h1,h2,h3,h4⟩
 ·exact absurd hv' hv
 obtain ⟨hS1,hL1⟩:=hS.ext hb (I':=E.I) (fun _ _ h=>h) (fun _ _ h=>.inl h)
 have hrm:=hS1.room 1
 have hbid:(S.boxes ++ List.replicate 1 none)[S.boxes.length]? = some none:=by simp
 have hgl:g < w'.heap.size:=(Array.getElem?_eq_some_iff.1 hbk).1
 obtain ⟨E',hS2,hL2,hB⟩:=hrm.box_take S.boxes.length hbid (ownC sz es) g (fun hq=>by have:=hS.n0 g hq; omega) hgl (fun o ho=>by have:=hS.Ilt g o ho; omega) (fun id he=>by have:=(hS.Blt id g he).2.2.1; omega)
  (fun t n v hk hg=>by have:=hS.Kblk t n v hk g hg; omega)
  (.own sz es true cur e rfl hbk hvals'.2.1 hvals'.2.2.1 (fun i e j c hi hj=>by
   obtain ⟨u,hu,hr⟩:=hvals'.2.2.2.2 i e j c hi hj
   refine ⟨u,?_,hr,hvals'.2.2.2.1 u (List.mem_of_getElem? hu)⟩
   have hlt:=(List.getElem?_eq_some_iff.1 hu).1
   rw [← h4,List.getElem?_take] at hu
   split at hu
   ·rw [← Array.getElem?_toList]; exact hu
   ·cases hu) (fun hf=>by cases hf))
 refine ⟨E',?_,hL1.trans hL2,.ms _ _ _ g cap hB h1 h2 ?_⟩
 ·have e1:(S.boxes ++ List.replicate 1 none).set S.boxes.length (some (ownC sz es)) = S.boxes ++ [some (ownC sz es)]:=by simp
  rw [← e1]; exact hS2
 ·unfold rowsOf; rw [hbk]; simp only; rw [h3]; exact Nat.le_refl _
end
section
variable {P : Program} {E : Env} {w w' : World} {G : Glob} {N0 : Nat → Prop} {w0 : World} {I0 : Nat → Nat → Prop} {S : St}
def makeMsA (P:Program) (S:St) (t:TypeId) (l c:AV):Option (AV × St):=
 match P.underlying t,l,c with
 | some (.slice e),.int .i64 n,.int .i64 m =>
  match P.info? e with
  | some i =>
   match i.zero with
   | some z =>
    if 0≤n∧n≤m∧m * (i.bytes + 1)≤roomA∧z.cells.size = i.size∧0 < i.size∧(absV z).closed1∧(absV z).cells.length = i.size∧z.cells.toList.all (·.oneCell') then
     some (.ms S.boxes.length i.size n.toNat,{ S with boxes:=S.boxes ++ [some (ownC i.size (List.replicate n.toNat (absV z)))] })
    else none
   | none=>none
  | none=>none
 | _,_,_=>none
theorem makeMsA_run (hS:SR P G N0 w0 I0 S E w) {t:TypeId} {l c r:AV} {S':St} {vl vc:Value} (h:makeMsA P S t l c = some (r,S')) (hl:Rep E w l vl) (hc:Rep E w c vc) :
  ∃ v w' E',(Instr.makeSlice t vl vc).run P w = .ok v w'∧SR P G N0 w0 I0 S' E' w'∧Env.Le E E' w w'∧Rep E' w' r v:=by
 unfold makeMsA at h
 split at h
 ·rename_i e n m hu
  cases hl; cases hc
  split at h
  ·rename_i i hi
   split at h
   ·rename_i z hz
    split at h
    ·rename_i hh
     obtain ⟨h0,hnm,hb,hzs,hs,hcl,hcells,hone⟩:=hh
     simp at h
     obtain ⟨rfl,rfl⟩:=h
     obtain ⟨n,rfl⟩:=Int.eq_ofNat_of_zero_le h0
     obtain ⟨m,rfl⟩:=Int.eq_ofNat_of_zero_le (show 0≤m by omega)
     simp only [Int.toNat_natCast] at *
     have hnm':n≤m:=by omega
     have hb':m * i.bytes + m≤70368744177664:=by
      have:(m:Int) * ((i.bytes:Int) + 1)≤(70368744177664:Nat):=hb
      rw [Int.mul_add] at this
      have e1:(m:Int) * (i.bytes:Int) = ((m * i.bytes:Nat):Int):=by simp
      omega
     have hb2:(i.bytes:Int) * (m:Int)≤281474976710656:=by
      have e1:(i.bytes:Int) * (m:Int) = ((m * i.bytes:Nat):Int):=by rw [Int.mul_comm]; simp
      omega
     have hrun:=run_make (P:=P) w t e i z hu hi hz .i64 .i64 n m h0 hnm hb2 (by omega)
     simp only [Int.toNat_natCast] at hrun
     rw [List.all_eq_true] at hone
     have hrow:∀ k,k < m * i.size→(madeCells z.cells (m * i.size))[k]? = some (z.cells[k % i.size]!):=fun k hk=>by
      simp [madeCells,hk,hzs]
     have hcr:=(absV_rep (E:=E) (w:=w) z).cr (closed1_plain hcl)
     have hmod:∀ k,k % i.size < z.cells.size:=fun k=>by rw [hzs]; exact Nat.mod_lt _ hs
     have hone':∀ k,(z.cells[k % i.size]!).oneCell' = true:=fun k=>by
      rw [getElem!_lt (hmod k)]
      exact hone _ (by simp)
     have hvals:Vals E w i.size (List.replicate n (absV z)) ((List.range (n * i.size)).map fun k=>z.cells[k % i.size]!):=by
      refine ⟨by simp,fun a ha=>by rw [(List.mem_replicate.1 ha).2]; exact hcells,fun a ha=>by rw [(List.mem_replicate.1 ha).2]; exact hcl,fun u hu=>?_,fun k a j c' hk hj=>?_⟩
      ·obtain ⟨k,_,rfl⟩:=List.mem_map.1 hu
       exact hone' k
      ·have hk':k < n:=by have:=(List.getElem?_eq_some_iff.1 hk).1; simpa using this
       rw [List.getElem?_replicate,if_pos hk'] at hk
       injection hk with hk; subst hk
       have hj':j < i.size:=by
        have:=(List.getElem?_eq_some_iff.1 hj).1
        rw [hcells] at this; exact this
       have hlt:k * i.size + j < n * i.size:=by
        have:(k + 1) * i.size≤n * i.size:=Nat.mul_le_mul_right _ hk'
        rw [Nat.add_mul] at this; omega
       have e2:(k * i.size + j) % i.size = j:=by rw [Nat.mul_comm,Nat.mul_add_mod,Nat.mod_eq_of_lt hj']
       have hjz:j < z.cells.size:=by omega
       refine ⟨z.cells[j],?_,(hcr.2 j c' _ hj (Array.getElem?_eq_getElem hjz)).1⟩
       rw [List.getElem?_map,List.getElem?_range hlt]
       simp only [Option.map_some,e2,getElem!_lt hjz]
     have hown:(w.alloc (.cells (madeCells z.cells (m * i.size)) e)).ownsRow w.heap.size e i.size (.slice (some ⟨w.heap.size,0,none⟩) n m) n ((List.range (n * i.size)).map fun k=>z.cells[k % i.size]!):=by
      refine ⟨by simp,.inr ⟨w.heap.size,m,_,rfl,Nat.le_refl _,heap_alloc_new w _,hnm',by simp only [maxLen]; omega,size_madeCells _ _,?_⟩⟩
      apply List.ext_getElem?
      intro k
      by_cases hk:k < n * i.size
      ·have hk2:k < m * i.size:=Nat.lt_of_lt_of_le hk (Nat.mul_le_mul_right _ hnm')
       rw [List.getElem?_take_of_lt hk,Array.getElem?_toList,hrow k hk2,List.getElem?_map,List.getElem?_range hk]
       rfl
      ·rw [List.getElem?_eq_none (by rw [List.length_take]; omega),List.getElem?_eq_none (by simp; omega)]
     have hbl:Below w.heap.size w (w.alloc (.cells (madeCells z.cells (m * i.size)) e)):=(Below.refl _ w).alloc (Nat.le_refl _) _
     obtain ⟨hS1,hL1⟩:=hS.ext hbl (I':=E.I) (fun _ _ h=>h) (fun _ _ h=>.inl h)
     obtain ⟨E',k1,k2,k3⟩:=hS.take_new hbl hown (by simp) (by simp) (hvals.le hL1)
     exact ⟨_,_,E',hrun,k1,k2,k3⟩
    ·cases h
   ·cases h
  ·cases h
 ·cases h
def makeMsW (P:Program) (S:St) (t:TypeId) (l c:AV) (K:AV→St→Prop):Prop:=
 match P.underlying t,l,c with
 | some (.slice e),.int .i64 n,.int .i64 m =>
  match P.info? e with
  | some i =>
   match i.zero with
   | some z =>
    (0≤n∧n≤m∧m * (i.bytes + 1)≤roomA) ∧
    if z.cells.size = i.size∧0 < i.size∧(absV z).closed1∧(absV z).cells.length = i.size∧z.cells.toList.all (·.oneCell') then
     K (.ms S.boxes.length i.size n.toNat) { S with boxes:=S.boxes ++ [some (ownC i.size (List.replicate n.toNat (absV z)))] }
    else False
   | none=>False
  | none=>False
 | _,_,_=>False
theorem makeMsW_imp {P:Program} {S:St} {t:TypeId} {l c:AV} {K:AV→St→Prop} (h:makeMsW P S t l c K):∃ v S',makeMsA P S t l c = some (v,S')∧K v S':=by
 unfold makeMsW at h
 unfold makeMsA
 split at h
 ·rename_i e n m hu
  split at h
  ·rename_i i hi
   split at h
   ·rename_i z hz
    obtain ⟨h1,h⟩:=h
    split at h
    ·rename_i h2
     try simp only [hu,hi,hz]
     rw [if_pos ⟨h1.1,h1.2.1,h1.2.2,h2⟩]
     exact ⟨_,_,rfl,h⟩
    ·exact h.elim
   ·exact h.elim
  ·exact h.elim
 ·exact h.elim
end
section
variable {P : Program} {E : Env} {w : World} {G : Glob} {N0 : Nat → Prop} {w0 : World} {I0 : Nat → Nat → Prop} {S : St}
def resSem (tm:Array Value):ResultVar→Sem Value
 | .tmp t=>pure (tm.getD t undef)
 | .cell a t=>do loadVar t (← asAddr (tm.getD a undef))
theorem resultA_run (hS:SR P G N0 w0 I0 S E w) {T:List AV} {tm:Array Value} (hT:TR E w T tm) {r:ResultVar} {v:AV} (h:resultA P T S r = some v) :
  ∃ u,(resSem tm r).run P w = .ok u w∧Rep E w v u:=by
 unfold resultA at h
 cases r with
 | tmp t =>
  simp only [Option.some.injEq] at h
  subst h
  exact ⟨_,rfl,hT.get t⟩
 | cell a t =>
  simp only at h
  split at h
  ·rename_i b o hb
   have hr:=hT.get a
   rw [hb] at hr
   obtain ⟨blk,he,_⟩:=rep_ptr hr
   obtain ⟨u,hu,hv⟩:=loadA_run hS h hr
   refine ⟨u,?_,hv⟩
   rw [he] at hu
   simp only [resSem,he]
   simpa [Instr.loadAt,Instr.sureAddr,asAddr] using hu
  ·cases h
theorem resultsA_run (hS:SR P G N0 w0 I0 S E w) {T:List AV} {tm:Array Value} (hT:TR E w T tm):∀ (rs:List ResultVar) (vs:List AV),resultsA P T S rs = some vs →
  ∃ us:List Value,(rs.mapM fun r=>resSem tm r).run P w = .ok us w∧us.length = vs.length∧∀ (i:Nat) (c:AV) (u:Value),vs[i]? = some c→us[i]? = some u→Rep E w c u
 | [],vs,h=>by
  simp only [resultsA,Option.some.injEq] at h
  subst h
  exact ⟨[],rfl,rfl,fun i c u h=>by simp at h⟩
 | r :: rs,vs,h=>by
  simp only [resultsA] at h
  split at h
  ·rename_i v hv
   split at h
   ·rename_i vs' hvs
    simp only [Option.some.injEq] at h
    subst h
    obtain ⟨u,hu,hr⟩:=resultA_run hS hT hv
    obtain ⟨us,hus,hl,hrs⟩:=resultsA_run hS hT rs vs' hvs
    refine ⟨u :: us,?_,by simp [hl],fun i c x hc hx=>?_⟩
    ·rw [List.mapM_cons]
     simp only [Sem.run_bind]
     rw [hu]
     simp only [Result.andThen_ok,hus,Sem.run_pure]
    ·match i,hc,hx with
     | 0,hc,hx=>simp at hc hx; subst hc; subst hx; exact hr
     | i + 1,hc,hx=>exact hrs i c x (by simpa using hc) (by simpa using hx)
   ·cases h
  ·cases h
theorem results_run (hS:SR P G N0 w0 I0 S E w) {T:List AV} {tm:Array Value} (hT:TR E w T tm) {fn:Func} {vs:List AV} (h:resultsA P T S fn.results.toList = some vs) :
    ∃ v,(results fn tm).run P w = .ok v w∧Rep E w (packA vs) v:=by
  obtain ⟨us,hu,hl,hr⟩:=resultsA_run hS hT _ _ h
  have hm:(fn.results.mapM fun r=>resSem tm r).run P w = .ok us.toArray w:=by
    rw [Array.mapM_eq_mapM_toList,Sem.run_map]
    rw [hu]
    rfl
  refine ⟨if h:us.toArray.size = 1 then us.toArray[0] else .tuple us.toArray,?_,?_⟩
  · have e:results fn tm = (do
        let vs ← fn.results.mapM fun r=>resSem tm r
        pure (if h:vs.size = 1 then vs[0] else .tuple vs)):=by
      unfold results
      congr 1
    rw [e]
    simp only [Sem.run_bind]
    rw [hm]
    rfl
  · match vs, us, hl, hr with
    | [c],[u],_,hr=>exact hr 0 c u rfl rfl
    | [],[],_,hr=>exact .tup _ _ rfl fun i c v h=>by simp at h
    | c1 :: c2 :: cs,u1 :: u2 :: us,hl,hr =>
      have:¬ (u1 :: u2 :: us).toArray.size = 1:=by simp
      rw [dif_neg this]
      exact .tup _ _ (by simpa using hl) fun i c v hc hv=>hr i c v hc (by simpa using hv)
theorem rep_tok {sz t:Nat} {es:List AV} {v:Value} (h:Rep E w (.sl sz es (.tok t)) v):E.K t es.length v:=by
 cases h with | sl _ _ _ A cap u hcap hmax hA hsz hcl ho hr h1=>exact ho
theorem rep_retok {sz t:Nat} {es:List AV} {v:Value} (h:Rep E w (.sl sz es (.tok t)) v) (B:Nat→Option Nat) (K:Nat→Nat→Value→Prop) (o:Own) (ho:∀ A cap,v = .slice A es.length cap→OwnOk K o es.length cap v) :
  Rep ⟨E.I,B,K⟩ w (.sl sz es o) v:=by
 cases h with | sl _ _ _ A cap u hcap hmax hA hsz hcl _ hr h1 =>
 exact .sl sz es o A cap u hcap hmax hA hsz hcl (ho A cap rfl) (fun i e j c hi hj=>(hr i e j c hi hj).rebase (closed_closed1 (closed1_cells (hcl e (List.mem_of_getElem? hi)) hj)) B K) h1
theorem tail_rep {vs:List AV} {us:Array Value} {c:AV} {B:Nat→Option Nat} {K:Nat→Nat→Value→Prop} (hn:us.size = vs.length + 1) (hc:∀ (i:Nat) (x:AV) (v:Value),(c :: vs)[i]? = some x→us[i]? = some v→Rep E w x v)
  (hall:(vs.map AV.strip1).all AV.closed1 = true) {c':AV} (h0:∀ v,us[0]? = some v→Rep ⟨E.I,B,K⟩ w c' v):Rep ⟨E.I,B,K⟩ w (.tup (c' :: vs.map AV.strip1)) (.tuple us):=by
 rw [List.all_eq_true] at hall
 refine .tup _ _ (by simpa using hn) fun i x v hi hv=>?_
 match i,hi with
 | 0,hi =>
  simp at hi; subst hi
  exact h0 v hv
 | i + 1,hi =>
  simp only [List.getElem?_cons_succ,List.getElem?_map] at hi
  cases hx:vs[i]? with
  | none=>simp [hx] at hi
  | some y =>
   simp [hx] at hi; subst hi
   exact (hc (i + 1) y v (by simpa using hx) hv).strip1.rebase (hall _ (List.mem_map.2 ⟨y,List.mem_of_getElem? hx,rfl⟩)) B K
theorem normA_res {E0:Env} {w1:World} (hS:SR P G (· < w1.heap.size) w1 E0.I S E w) (hI:∀ b o,E0.I b o→E.I b o) {r0 r:AV} {lv:List (Nat × TypeId)} {v:Value} (h:normA S.live r0 = some (r,lv))
  (hr:Rep E w r0 v):Res P E0 w1 w r lv v:=by
 have hI2:∀ b o,E.I b o→E0.I b o∨(w1.heap.size≤b∧b < w.heap.size):=fun b o hi=>by
  rcases Nat.lt_or_ge b w1.heap.size with hlt | hge
  ·exact .inl (hS.Iold b o hi hlt)
  ·exact .inr ⟨hge,hS.Ilt b o hi⟩
 refine ⟨E.I,hI,hI2,hS.below.below,?_⟩
 have owner:∀ t n e es sz v,S.live[t]? = some (n,e)→n = es.length→Rep E w (.sl sz es (.tok t)) v→∃ sz' xs,sizeA P e = some sz'∧w.ownsRow w1.heap.size e sz' v n xs∧∀ g,v.ownBlock = some g→∀ o,E.I g o→o < n * sz':=by
  intro t n e es sz v ht hn hr
  have hk:=rep_tok hr
  obtain ⟨v',xs,sz',hsz,hown,hu,hK,hg⟩:=hS.live t n e ht
  subst hn
  obtain rfl:=hu v hk
  exact ⟨sz',xs,hsz,hown.row,fun g hg1=>(hg g hg1).1⟩
 unfold normA at h
 split at h
 ·rename_i sz es t
  split at h
  ·rename_i n e ht
   split at h
   ·rename_i hn
    simp only [Option.some.injEq,Prod.mk.injEq] at h
    obtain ⟨rfl,rfl⟩:=h
    obtain ⟨sz',xs,h1,h2,h3⟩:=owner t n e es sz v ht hn hr
    refine .inr ⟨n,e,v,sz',xs,rfl,h1,h2,h3,fun B K L hk=>?_⟩
    exact rep_retok hr B K (.tok L) fun A cap _=>by subst hn; exact hk
   ·simp only [Option.some.injEq,Prod.mk.injEq] at h
    obtain ⟨rfl,rfl⟩:=h
    exact .inl ⟨rfl,fun B K=>rep_retok hr B K .no fun _ _ _=>trivial⟩
  ·cases h
 ·rename_i sz es t vs
  obtain ⟨us,rfl,hn,hc⟩:=rep_tup hr
  have hu0:0 < us.size:=by rw [hn]; simp
  have h0:=hc 0 _ _ rfl (Array.getElem?_eq_getElem hu0)
  split at h
  ·rename_i hall
   split at h
   ·rename_i n e ht
    split at h
    ·rename_i hne
     simp only [Option.some.injEq,Prod.mk.injEq] at h
     obtain ⟨rfl,rfl⟩:=h
     obtain ⟨sz',xs,h1,h2,h3⟩:=owner t n e es sz _ ht hne h0
     refine .inr ⟨n,e,us[0],sz',xs,rfl,h1,h2,h3,fun B K L hk=>?_⟩
     refine tail_rep (by simpa using hn) hc hall fun v hv=>?_
     rw [Array.getElem?_eq_getElem hu0] at hv
     injection hv with hv; subst hv
     exact rep_retok h0 B K (.tok L) fun A cap _=>by subst hne; exact hk
    ·simp only [Option.some.injEq,Prod.mk.injEq] at h
     obtain ⟨rfl,rfl⟩:=h
     refine .inl ⟨rfl,fun B K=>tail_rep (by simpa using hn) hc hall fun v hv=>?_⟩
     rw [Array.getElem?_eq_getElem hu0] at hv
     injection hv with hv; subst hv
     exact rep_retok h0 B K .no fun _ _ _=>trivial
   ·cases h
  ·cases h
 ·rename_i vs _
  split at h
  ·rename_i hall
   simp only [Option.some.injEq,Prod.mk.injEq] at h
   obtain ⟨rfl,rfl⟩:=h
   rw [List.all_eq_true] at hall
   obtain ⟨us,rfl,hn,hc⟩:=rep_tup hr
   refine .inl ⟨rfl,fun B K=>.tup _ _ (by simpa using hn) fun i x v hi hv=>?_⟩
   rw [List.getElem?_map] at hi
   cases hx:vs[i]? with
   | none=>simp [hx] at hi
   | some y =>
    simp [hx] at hi; subst hi
    exact (hc i y v hx hv).strip1.rebase (hall _ (List.mem_map.2 ⟨y,List.mem_of_getElem? hx,rfl⟩)) B K
  ·cases h
 ·split at h
  ·rename_i hcl
   simp only [Option.some.injEq,Prod.mk.injEq] at h
   obtain ⟨rfl,rfl⟩:=h
   exact .inl ⟨rfl,fun B K=>hr.strip1.rebase hcl B K⟩
  ·cases h
/-! ### what is handed on is written no more -/
theorem SR.freeze (hS:SR P G N0 w0 I0 S E w) {b sz:Nat} {es:List AV} (hb:S.boxes[b]? = some (some (ownC sz es))) :
  ∃ E',SR P G N0 w0 I0 { S with boxes:=S.boxes.set b (some (frzC sz es)) } E' w∧Env.Le E E' w w:=by
 obtain ⟨blk,hB,hx⟩:=hS.box b _ hb
 obtain ⟨b1,b2,b3,b4⟩:=hS.Blt b blk hB
 have hnf:¬ Frz S b:=fun hf=>by
  rcases hf.row hb with e2 | ⟨sz2,es2,e2⟩ <;> simp at e2
 let E':Env:=⟨fun b' o=>E.I b' o∨(b' = blk∧∃ i e j c,es[i]? = some e∧e.cells[j]? = some c∧o = i * sz + j),E.B,E.K⟩
 have hle:Env.Le E E' w w:=⟨fun _ _ h=>⟨.inl h,rfl⟩,fun _ _ h=>h,fun _ _ _ h=>h,fun _ _ _=>rfl⟩
 have hset:(S.boxes.set b (some (frzC sz es)))[b]? = some (some (frzC sz es)):=by
  rw [List.getElem?_set,if_pos rfl,if_pos b1]
 refine ⟨E',⟨hS.below,hS.n0,fun b' o hi=>?_,fun b' o hi hlt=>?_,fun id b' he=>?_,hS.Binj,fun id cs hi=>?_,hS.glob.le hle,fun id hi=>?_,hS.Klt,hS.Kblk,fun t n e ht=>?_⟩,hle⟩
 ·rcases hi with hi | ⟨rfl,_⟩
  ·exact hS.Ilt b' o hi
  ·exact b3
 ·rcases hi with hi | ⟨rfl,_⟩
  ·exact hS.Iold b' o hi hlt
  ·exact absurd hlt b2
 ·obtain ⟨a1,a2,a3,a4⟩:=hS.Blt id b' he
  refine ⟨by simpa using a1,a2,a3,fun o ho=>?_⟩
  by_cases e:b = id
  ·subst e; exact ⟨_,hset,.inr ⟨sz,es,rfl⟩⟩
  ·rcases ho with ho | ⟨rfl,_⟩
   ·exact (a4 o ho).set e
   ·exact absurd (hS.Binj _ _ _ hB he) e
 ·simp only [List.getElem?_set] at hi
  by_cases e:b = id
  ·subst e
   simp only [b1,if_pos,Option.some.injEq] at hi
   subst hi
   refine ⟨blk,hB,?_⟩
   cases hx with
   | row arr ty hr=>simp [isRow] at hr
   | iter s pos hcs=>simp at hcs
   | map t n es k e D hcs=>simp [mapC] at hcs
   | dead hcs=>simp at hcs
   | own sz2 es2 f arr ty hcs hh hsz hcl hc hf =>
    simp only [List.cons.injEq,AV.tup.injEq,AV.bool.injEq,AV.sl.injEq,and_true] at hcs
    obtain ⟨rfl,rfl,rfl⟩:=hcs
    exact .own sz es false arr ty rfl hh hsz hcl (fun i e j c h1 h2=>by
     obtain ⟨v,k1,k2,k3⟩:=hc i e j c h1 h2
     exact ⟨v,k1,k2.le hle,k3⟩) fun _ i e j c h1 h2=>.inr ⟨rfl,i,e,j,c,h1,h2,rfl⟩
  ·rw [if_neg e] at hi
   obtain ⟨blk',hB',hx'⟩:=hS.box id cs hi
   exact ⟨blk',hB',hx'.le rfl hle⟩
 ·simp only [List.getElem?_set] at hi
  by_cases e:b = id
  ·subst e
   simp [b1] at hi
  ·rw [if_neg e] at hi
   exact hS.hole id hi
 ·obtain ⟨v,xs,sz',hsz,hown,hu,hK,hg⟩:=hS.live t n e ht
  refine ⟨v,xs,sz',hsz,hown,hu,hK,fun g hg'=>?_⟩
  obtain ⟨a1,a2,a3⟩:=hg g hg'
  refine ⟨fun o ho=>?_,a2,a3⟩
  rcases ho with ho | ⟨rfl,_⟩
  ·exact a1 o ho
  ·exact absurd hB (a2 b)
theorem frz1_ok (hS:SR P G N0 w0 I0 S E w) {b:Nat} {S':St} (h:frz1 S b = some S'):∃ E',SR P G N0 w0 I0 S' E' w∧Env.Le E E' w w:=by
 unfold frz1 at h
 split at h
 ·rename_i sz es hb
  injection h with h; subst h
  exact hS.freeze hb
 ·injection h with h; subst h
  exact ⟨E,hS,Env.Le.refl _ _⟩
 ·cases h
theorem frzL_ok:∀ (l:List Nat) {S S':St} {E:Env},SR P G N0 w0 I0 S E w→frzL S l = some S'→∃ E',SR P G N0 w0 I0 S' E' w∧Env.Le E E' w w
 | [],S,S',E,hS,h=>by
  simp only [frzL,Option.some.injEq] at h; subst h
  exact ⟨E,hS,Env.Le.refl _ _⟩
 | b :: l,S,S',E,hS,h=>by
  simp only [frzL] at h
  split at h
  ·rename_i S1 h1
   obtain ⟨E1,k1,k2⟩:=frz1_ok hS h1
   obtain ⟨E2,k3,k4⟩:=frzL_ok l k1 h
   exact ⟨E2,k3,k2.trans k4⟩
  ·cases h
theorem res0_ok (hS:SR P G N0 w0 I0 S E w) {a b:AV} {v:Value} (h:res0 S a = some b) (hr:Rep E w a v):Rep E w b v:=by
 unfold res0 at h
 split at h
 ·rename_i id sz0 n
  split at h
  ·rename_i sz es hb
   split at h
   ·rename_i hn
    injection h with h; subst h; subst hn
    cases hr with | ms _ _ _ blk cap hB h1 h2 =>
    obtain ⟨blk',hB',hx⟩:=hS.box id _ hb
    obtain rfl:blk = blk':=by rw [hB] at hB'; injection hB'
    cases hx with
    | row arr ty hr=>simp [isRow] at hr
    | iter s pos hcs=>simp at hcs
    | map t n es k e D hcs=>simp [mapC] at hcs
    | dead hcs=>simp at hcs
    | own sz2 es2 f arr ty hcs hh hsz hcl hc hf =>
     simp only [List.cons.injEq,AV.tup.injEq,AV.bool.injEq,AV.sl.injEq,and_true] at hcs
     obtain ⟨rfl,rfl,rfl⟩:=hcs
     let u:Nat→Nat→Value:=fun i j=>if j < sz∧i < es.length then arr.getD (i * sz + j) (.bool false) else .bool false
     have hat:∀ (i:Nat) (e:AV) (j:Nat) (c:AV),es[i]? = some e→e.cells[j]? = some c→arr[i * sz + j]? = some (u i j)∧Rep E w c (u i j)∧(u i j).oneCell' = true:=fun i e j c hi hj=>by
      obtain ⟨x,k1,k2,k3⟩:=hc i e j c hi hj
      have h4:i < es.length:=(List.getElem?_eq_some_iff.1 hi).1
      have h5:j < sz:=by
       have:=(List.getElem?_eq_some_iff.1 hj).1
       rw [hsz e (List.mem_of_getElem? hi)] at this; exact this
      have e1:u i j = x:=by
       simp only [u,h4,h5,and_self,if_true]
       obtain ⟨hlt,e2⟩:=Array.getElem?_eq_some_iff.1 k1
       simp [Array.getD,hlt,e2]
      rw [e1]
      exact ⟨k1,k2,k3⟩
     refine .sl sz es .no (some ⟨blk,0,none⟩) cap u h1 h2 (.inr ⟨blk,0,rfl,fun i e j c hi hj=>?_⟩) hsz hcl trivial (fun i e j c hi hj=>(hat i e j c hi hj).2.1) (fun i j=>?_)
     ·have:=hf rfl i e j c hi hj
      refine ⟨by simpa using this,?_⟩
      obtain ⟨k1,_⟩:=hat i e j c hi hj
      obtain ⟨hlt,e2⟩:=Array.getElem?_eq_some_iff.1 k1
      simp [World.cell?,hh,hlt,e2]
     ·by_cases hij:j < sz∧i < es.length
      ·have h6:j < es[i].cells.length:=by rw [hsz _ (List.getElem_mem hij.2)]; exact hij.1
       exact (hat i _ j _ (List.getElem?_eq_getElem hij.2) (List.getElem?_eq_getElem h6)).2.2
      ·simp only [u,if_neg hij]; rfl
   ·cases h
  ·cases h
 ·injection h with h; subst h; exact hr
theorem resL_at {f:AV→Option AV}:∀ {l m:List AV},resL f l = some m→m.length = l.length∧∀ (i:Nat) (b:AV),m[i]? = some b→∃ a,l[i]? = some a∧f a = some b
 | [],m,h=>by
  simp only [resL,Option.some.injEq] at h; subst h
  exact ⟨rfl,fun i b h=>by simp at h⟩
 | a :: l,m,h=>by
  simp only [resL] at h
  split at h
  ·rename_i u hu
   split at h
   ·rename_i us hus
    injection h with h; subst h
    obtain ⟨h1,h2⟩:=resL_at hus
    refine ⟨by simp [h1],fun i b hb=>?_⟩
    match i,hb with
    | 0,hb=>simp at hb; subst hb; exact ⟨a,rfl,hu⟩
    | i + 1,hb=>exact h2 i b (by simpa using hb)
   ·cases h
  ·cases h
theorem res1_ok (hS:SR P G N0 w0 I0 S E w) {a b:AV} {v:Value} (h:res1 S a = some b) (hr:Rep E w a v):Rep E w b v:=by
 unfold res1 at h
 split at h
 ·rename_i cs
  cases hl:resL (res0 S) cs with
  | none=>rw [hl] at h; cases h
  | some ds =>
   rw [hl] at h
   injection h with h; subst h
   obtain ⟨h1,h2⟩:=resL_at hl
   cases hr with | agg _ vs hn h3 h4 =>
   exact .agg ds vs (by omega) h3 fun i c v hi hv=>by
    obtain ⟨a,ha,hf⟩:=h2 i c hi
    exact res0_ok hS hf (h4 i a v ha hv)
 ·exact res0_ok hS h hr
theorem res2_ok (hS:SR P G N0 w0 I0 S E w) {a b:AV} {v:Value} (h:res2 S a = some b) (hr:Rep E w a v):Rep E w b v:=by
 unfold res2 at h
 split at h
 ·rename_i cs
  cases hl:resL (res1 S) cs with
  | none=>rw [hl] at h; cases h
  | some ds =>
   rw [hl] at h
   injection h with h; subst h
   obtain ⟨h1,h2⟩:=resL_at hl
   cases hr with | tup _ vs hn h4 =>
   exact .tup ds vs (by omega) fun i c v hi hv=>by
    obtain ⟨a,ha,hf⟩:=h2 i c hi
    exact res1_ok hS hf (h4 i a v ha hv)
 ·exact res1_ok hS h hr
theorem giveA_ok (hS:SR P G N0 w0 I0 S E w) {a b:AV} {S':St} {v:Value} (h:giveA S a = some (b,S')) (hr:Rep E w a v):∃ E',SR P G N0 w0 I0 S' E' w∧Env.Le E E' w w∧Rep E' w b v:=by
 unfold giveA at h
 split at h
 ·simp only [Option.some.injEq,Prod.mk.injEq] at h
  obtain ⟨rfl,rfl⟩:=h
  exact ⟨E,hS,Env.Le.refl _ _,hr⟩
 ·split at h
  ·rename_i S1 h1
   obtain ⟨E1,k1,k2⟩:=frzL_ok _ hS h1
   cases hv:res2 S1 a with
   | none=>rw [hv] at h; cases h
   | some c =>
    rw [hv] at h
    simp only [Option.map_some,Option.some.injEq,Prod.mk.injEq] at h
    obtain ⟨rfl,rfl⟩:=h
    exact ⟨E1,k1,k2,res2_ok k1 hv (hr.le k2)⟩
  ·cases h
inductive PB (n:Nat):AV→Prop
 | lit (v:Value):PB n (.lit v)
 | bool (b:Bool):PB n (.bool b)
 | int (k:IntKind) (m:Int):PB n (.int k m)
 | str (l:List UInt8):PB n (.str l)
 | sl (sz:Nat) (es:List AV) (o:Own):PB n (.sl sz es o)
 | elt (sz:Nat) (es:List AV) (i j:Nat):PB n (.elt sz es i j)
 | ptr (b o:Nat) (h:b < n):PB n (.ptr b o)
 | mp (b:Nat) (h:b < n):PB n (.mp b)
 | ms (b sz k:Nat) (h:b < n):PB n (.ms b sz k)
 | mel (b sz i j:Nat) (h:b < n):PB n (.mel b sz i j)
 | mst (b sz i k:Nat) (h:b < n):PB n (.mst b sz i k)
 | ifc:PB n .ifc
 | opq:PB n .opq
 | junk:PB n .junk
 | agg (cs:List AV) (h:∀ c ∈ cs,PB n c):PB n (.agg cs)
 | tup (cs:List AV) (h:∀ c ∈ cs,PB n c):PB n (.tup cs)
 | fn (f:FuncId) (cs:List AV) (h:∀ c ∈ cs,PB n c):PB n (.fn f cs)
theorem pb0 {n:Nat} {a:AV} (h:a.p0 n = true):PB n a:=by
 cases a with
 | ptr b o=>exact .ptr b o (by simpa [AV.p0] using h)
 | mp b=>exact .mp b (by simpa [AV.p0] using h)
 | ms b sz k=>exact .ms b sz k (by simpa [AV.p0] using h)
 | mel b sz i j=>exact .mel b sz i j (by simpa [AV.p0] using h)
 | mst b sz i k=>exact .mst b sz i k (by simpa [AV.p0] using h)
 | fn f cap =>
  have:cap = []:=by simpa [AV.p0] using h
  subst this
  exact .fn f [] fun c hc=>by cases hc
 | agg cs=>simp [AV.p0] at h
 | tup cs=>simp [AV.p0] at h
 | _=>constructor
theorem pb1 {n:Nat} {a:AV} (h:a.p1 n = true):PB n a:=by
 cases a with
 | fn f cap =>
  simp only [AV.p1,List.all_eq_true] at h
  exact .fn f cap fun c hc=>pb0 (h c hc)
 | agg cs =>
  simp only [AV.p1,List.all_eq_true] at h
  exact .agg cs fun c hc=>pb0 (h c hc)
 | _=>exact pb0 h
theorem pb2 {n:Nat} {a:AV} (h:a.p2 n = true):PB n a:=by
 cases a with
 | tup vs =>
  simp only [AV.p2,List.all_eq_true] at h
  exact .tup vs fun c hc=>pb1 (h c hc)
 | agg cs =>
  simp only [AV.p2,List.all_eq_true] at h
  exact .agg cs fun c hc=>pb1 (h c hc)
 | _=>exact pb1 h
theorem pb_closed {n:Nat} {a:AV} (h:a.closed1 = true):PB n a:=by
 cases a with
 | agg cs =>
  simp only [AV.closed1,List.all_eq_true] at h
  refine .agg cs fun c hc=>?_
  have:=h c hc
  cases c with
  | fn f cap =>
   have h0:cap = []:=by simpa [AV.closed] using this
   subst h0
   exact .fn f [] fun c hc=>by cases hc
  | _=>first | (simp [AV.closed] at this; done) | constructor
 | fn f cap =>
  have h0:cap = []:=by simpa [AV.closed1,AV.closed] using h
  subst h0
  exact .fn f [] fun c hc=>by cases hc
 | _=>first | (simp [AV.closed1,AV.closed] at h; done) | constructor
def cutB (n:Nat) (B:Nat→Option Nat):Nat→Option Nat:=fun id=>if id < n then B id else none
theorem Rep.cut {n:Nat} {a:AV} {v:Value} (h:Rep E w a v) (hp:PB n a):Rep ⟨E.I,cutB n E.B,E.K⟩ w a v:=by
 induction h with
 | lit v h=>exact .lit v h
 | bool b=>exact .bool b
 | int k n=>exact .int k n
 | str l s h=>exact .str l s h
 | agg cs vs hn h1 _ ih=>cases hp with | agg _ hp=>exact .agg cs vs hn h1 fun i c v hi hv=>ih i c v hi hv (hp c (List.mem_of_getElem? hi))
 | tup cs vs hn _ ih=>cases hp with | tup _ hp=>exact .tup cs vs hn fun i c v hi hv=>ih i c v hi hv (hp c (List.mem_of_getElem? hi))
 | sl sz es o A cap u hcap hmax hA hsz hcl ho _ h1 ih =>
  exact .sl sz es o A cap u hcap hmax hA hsz hcl ho (fun i e j c hi hj=>ih i e j c hi hj (pb_closed (closed_closed1 (closed1_cells (hcl e (List.mem_of_getElem? hi)) hj)))) h1
 | elt sz es i0 j0 b off u hcl hA _ h1 ih =>
  exact .elt sz es i0 j0 b off u hcl hA (fun i e j c hi hj=>ih i e j c hi hj (pb_closed (closed_closed1 (closed1_cells (hcl e (List.mem_of_getElem? hi)) hj)))) h1
 | ptr b off blk h=>cases hp with | ptr _ _ hb=>exact .ptr b off blk (by simp [cutB,hb,h])
 | mp b blk h=>cases hp with | mp _ hb=>exact .mp b blk (by simp [cutB,hb,h])
 | ms b sz k blk cap h h1 h2 h3=>cases hp with | ms _ _ _ hb=>exact .ms b sz k blk cap (by simp [cutB,hb,h]) h1 h2 h3
 | mel b sz i j blk h=>cases hp with | mel _ _ _ _ hb=>exact .mel b sz i j blk (by simp [cutB,hb,h])
 | mst b sz i k blk cap A h hA=>cases hp with | mst _ _ _ _ hb=>exact .mst b sz i k blk cap A (by simp [cutB,hb,h]) hA
 | fn f cs vs hn _ ih=>cases hp with | fn _ _ hp=>exact .fn f cs vs hn fun i c v hi hv=>ih i c v hi hv (hp c (List.mem_of_getElem? hi))
 | opq v h=>exact .opq v h
 | ifc t v=>exact .ifc t v
 | junk v=>exact .junk v
theorem boxesOk_at {n:Nat}:∀ (l:List (Option (List AV))),boxesOk n l = true→∀ (i:Nat) (cs:List AV),l[i]? = some (some cs)→isRow cs = true→∀ c ∈ cs,PB n c
 | [],_,i,cs,h=>by simp at h
 | some ds :: l,hb,i,cs,h=>by
  simp only [boxesOk,Bool.and_eq_true,Bool.or_eq_true,Bool.not_eq_true',List.all_eq_true] at hb
  match i,h with
  | 0,h=>simp at h; subst h; exact fun hr c hc=>pb1 (hb.1.elim (fun e=>by rw [hr] at e; cases e) (fun k=>k c hc))
  | i + 1,h=>exact boxesOk_at l hb.2 i cs (by simpa using h)
 | none :: l,hb,i,cs,h=>by
  simp only [boxesOk] at hb
  match i,h with
  | 0,h=>simp at h
  | i + 1,h=>exact boxesOk_at l hb i cs (by simpa using h)
inductive TB (n:Nat):AV→Prop
 | lit (v:Value):TB n (.lit v)
 | bool (b:Bool):TB n (.bool b)
 | int (k:IntKind) (m:Int):TB n (.int k m)
 | str (l:List UInt8):TB n (.str l)
 | sl (sz:Nat) (es:List AV) (o:Own) (h:∀ k,o = .tok k→k < n):TB n (.sl sz es o)
 | elt (sz:Nat) (es:List AV) (i j:Nat):TB n (.elt sz es i j)
 | ptr (b o:Nat):TB n (.ptr b o)
 | mp (b:Nat):TB n (.mp b)
 | ms (b sz k:Nat):TB n (.ms b sz k)
 | mel (b sz i j:Nat):TB n (.mel b sz i j)
 | mst (b sz i k:Nat):TB n (.mst b sz i k)
 | ifc:TB n .ifc
 | opq:TB n .opq
 | junk:TB n .junk
 | agg (cs:List AV) (h:∀ c ∈ cs,TB n c):TB n (.agg cs)
 | tup (cs:List AV) (h:∀ c ∈ cs,TB n c):TB n (.tup cs)
 | fn (f:FuncId) (cs:List AV) (h:∀ c ∈ cs,TB n c):TB n (.fn f cs)
def AV.t0 (n:Nat):AV→Bool
 | .sl _ _ (.tok k)=>decide (k < n)
 | .agg _ | .tup _ | .fn _ _=>false
 | _=>true
def AV.t1 (n:Nat):AV→Bool
 | .agg cs | .tup cs | .fn _ cs=>cs.all (AV.t0 n)
 | a=>a.t0 n
def AV.t2 (n:Nat):AV→Bool
 | .agg cs | .tup cs | .fn _ cs=>cs.all (AV.t1 n)
 | a=>a.t1 n
theorem tb0 {n:Nat} {a:AV} (h:a.t0 n = true):TB n a:=by
 cases a with
 | sl sz es o =>
  refine .sl sz es o fun k hk=>?_
  subst hk
  simpa [AV.t0] using h
 | agg cs=>simp [AV.t0] at h
 | tup cs=>simp [AV.t0] at h
 | fn f cs=>simp [AV.t0] at h
 | _=>constructor
theorem tb1 {n:Nat} {a:AV} (h:a.t1 n = true):TB n a:=by
 cases a with
 | agg cs =>
  simp only [AV.t1,List.all_eq_true] at h
  exact .agg cs fun c hc=>tb0 (h c hc)
 | tup cs =>
  simp only [AV.t1,List.all_eq_true] at h
  exact .tup cs fun c hc=>tb0 (h c hc)
 | fn f cs =>
  simp only [AV.t1,List.all_eq_true] at h
  exact .fn f cs fun c hc=>tb0 (h c hc)
 | _=>exact tb0 h
theorem tb2 {n:Nat} {a:AV} (h:a.t2 n = true):TB n a:=by
 cases a with
 | agg cs =>
  simp only [AV.t2,List.all_eq_true] at h
  exact .agg cs fun c hc=>tb1 (h c hc)
 | tup cs =>
  simp only [AV.t2,List.all_eq_true] at h
  exact .tup cs fun c hc=>tb1 (h c hc)
 | fn f cs =>
  simp only [AV.t2,List.all_eq_true] at h
  exact .fn f cs fun c hc=>tb1 (h c hc)
 | _=>exact tb1 h
theorem tb_closed0 {n:Nat} {a:AV} (h:a.closed = true):TB n a:=by
 cases a with
 | sl sz es o =>
  refine .sl sz es o fun k hk=>?_
  subst hk
  simp [AV.closed] at h
 | fn f cap =>
  have h0:cap = []:=by simpa [AV.closed] using h
  subst h0
  exact .fn f [] fun c hc=>by cases hc
 | _=>first | (simp [AV.closed] at h; done) | constructor
def cutK (n:Nat) (K:Nat→Nat→Value→Prop):Nat→Nat→Value→Prop:=fun t m v=>K t m v∧t < n
theorem Rep.cutK {n:Nat} {a:AV} {v:Value} (h:Rep E w a v) (hp:TB n a):Rep ⟨E.I,E.B,Abs.cutK n E.K⟩ w a v:=by
 induction h with
 | lit v h=>exact .lit v h
 | bool b=>exact .bool b
 | int k n=>exact .int k n
 | str l s h=>exact .str l s h
 | agg cs vs hn h1 _ ih=>cases hp with | agg _ hp=>exact .agg cs vs hn h1 fun i c v hi hv=>ih i c v hi hv (hp c (List.mem_of_getElem? hi))
 | tup cs vs hn _ ih=>cases hp with | tup _ hp=>exact .tup cs vs hn fun i c v hi hv=>ih i c v hi hv (hp c (List.mem_of_getElem? hi))
 | sl sz es o A cap u hcap hmax hA hsz hcl ho _ h1 ih =>
  cases hp with | sl _ _ _ hp =>
  refine .sl sz es o A cap u hcap hmax hA hsz hcl ?_ (fun i e j c hi hj=>ih i e j c hi hj (tb_closed0 (closed1_cells (hcl e (List.mem_of_getElem? hi)) hj))) h1
  cases o with
  | full=>exact ho
  | no=>trivial
  | nil=>exact ho
  | tok t=>exact ⟨ho,hp t rfl⟩
 | elt sz es i0 j0 b off u hcl hA _ h1 ih =>
  exact .elt sz es i0 j0 b off u hcl hA (fun i e j c hi hj=>ih i e j c hi hj (tb_closed0 (closed1_cells (hcl e (List.mem_of_getElem? hi)) hj))) h1
 | ptr b off blk h=>exact .ptr b off blk h
 | mp b blk h=>exact .mp b blk h
 | ms b sz k blk cap h h1 h2 h3=>exact .ms b sz k blk cap h h1 h2 h3
 | mel b sz i j blk h=>exact .mel b sz i j blk h
 | mst b sz i k blk cap A h hA=>exact .mst b sz i k blk cap A h hA
 | fn f cs vs hn _ ih=>cases hp with | fn _ _ hp=>exact .fn f cs vs hn fun i c v hi hv=>ih i c v hi hv (hp c (List.mem_of_getElem? hi))
 | opq v h=>exact .opq v h
 | ifc t v=>exact .ifc t v
 | junk v=>exact .junk v
def stripT (n:Nat) (a:AV):AV:=
 match a with
 | .sl sz es (.tok k)=>if k < n then .sl sz es (.tok k) else .sl sz es .no
 | a=>if a.t2 n then a else .junk
theorem Rep.stripT {n:Nat} {a:AV} {v:Value} (h:Rep E w a v):Rep ⟨E.I,E.B,Abs.cutK n E.K⟩ w (Abs.stripT n a) v:=by
 unfold Abs.stripT
 split
 ·rename_i sz es k
  split
  ·rename_i hk
   exact h.cutK (.sl _ _ _ fun k' e=>by injection e with e; omega)
  ·have h2:Rep E w (.sl sz es .no) v:=by
    cases h with | sl _ _ _ A cap u hcap hmax hA hsz hcl ho hr h1=>exact .sl sz es .no A cap u hcap hmax hA hsz hcl trivial hr h1
   exact h2.cutK (.sl _ _ _ fun k' e=>by cases e)
 ·split
  ·rename_i hk
   exact h.cutK (tb2 hk)
  ·exact .junk v
def boxesT (n:Nat):List (Option (List AV))→Bool
 | []=>true
 | some cs :: l=>(!isRow cs || cs.all (AV.t1 n)) && boxesT n l
 | none :: l=>boxesT n l
theorem boxesT_at {n:Nat}:∀ (l:List (Option (List AV))),boxesT n l = true→∀ (i:Nat) (cs:List AV),l[i]? = some (some cs)→isRow cs = true→∀ c ∈ cs,TB n c
 | [],_,i,cs,h=>by simp at h
 | some ds :: l,hb,i,cs,h=>by
  simp only [boxesT,Bool.and_eq_true,Bool.or_eq_true,Bool.not_eq_true',List.all_eq_true] at hb
  match i,h with
  | 0,h=>simp at h; subst h; exact fun hr c hc=>tb1 (hb.1.elim (fun e=>by rw [hr] at e; cases e) (fun k=>k c hc))
  | i + 1,h=>exact boxesT_at l hb.2 i cs (by simpa using h)
 | none :: l,hb,i,cs,h=>by
  simp only [boxesT] at hb
  match i,h with
  | 0,h=>simp at h
  | i + 1,h=>exact boxesT_at l hb i cs (by simpa using h)
theorem SR.cutK (h:SR P G N0 w0 I0 S E w) {n:Nat} (hb:boxesT n S.boxes = true):SR P G N0 w0 I0 { S with live:=S.live.take n } ⟨E.I,E.B,Abs.cutK n E.K⟩ w:=by
 refine ⟨h.below,h.n0,h.Ilt,h.Iold,h.Blt,h.Binj,fun id cs hi=>?_,fun g e hg=>⟨(h.glob g e hg).1,(h.glob g e hg).2.1.cutK (.elt _ _ _ _),(h.glob g e hg).2.2⟩,h.hole,fun t m v hk=>?_,fun t m v hk=>h.Kblk t m v hk.1,fun t m e ht=>?_⟩
 ·obtain ⟨blk,hB,hx⟩:=h.box id cs hi
  have hpb:=boxesT_at _ hb id cs hi
  refine ⟨blk,hB,?_⟩
  cases hx with
  | row arr ty hr hh hn hc=>exact .row arr ty hr hh hn fun i c v hi hv=>⟨(hc i c v hi hv).1.cutK (hpb hr c (List.mem_of_getElem? hi)),(hc i c v hi hv).2⟩
  | iter s pos hcs hh=>exact .iter s pos hcs hh
  | map t n es k e D hcs hk hg hD ho=>exact .map t n es k e D hcs hk hg hD ho
  | own sz es f arr ty hcs hh hsz hcl hc hf=>exact .own sz es f arr ty hcs hh hsz hcl (fun i e j c hi hj=>by
    obtain ⟨v,k1,k2,k3⟩:=hc i e j c hi hj
    exact ⟨v,k1,k2.rebase (closed_closed1 (closed1_cells (hcl e (List.mem_of_getElem? hi)) hj)) _ _,k3⟩) hf
  | dead hcs=>exact .dead hcs
 ·obtain ⟨m',e,hm,hle⟩:=h.Klt t m v hk.1
  exact ⟨m',e,by rw [List.getElem?_take_of_lt hk.2]; exact hm,hle⟩
 ·have htn:t < n:=by
   have:=(List.getElem?_eq_some_iff.1 ht).1
   simp at this; omega
  have ht':S.live[t]? = some (m,e):=by
   have:=ht
   simp only [List.getElem?_take_of_lt htn] at this
   exact this
  obtain ⟨v,xs,sz,hsz,hown,hu,hK,hg⟩:=h.live t m e ht'
  exact ⟨v,xs,sz,hsz,hown,fun v' hk=>hu v' hk.1,⟨hK,htn⟩,fun g hg'=>⟨(hg g hg').1,(hg g hg').2.1,fun t' n' v' hk=>(hg g hg').2.2 t' n' v' hk.1⟩⟩
theorem SR.cut (h:SR P G N0 w0 I0 S E w) {n:Nat} (hb:boxesOk n (S.boxes.take n) = true):SR P G N0 w0 I0 { S with boxes:=S.boxes.take n } ⟨E.I,cutB n E.B,E.K⟩ w:=by
 have hB:∀ id b,cutB n E.B id = some b→id < n∧E.B id = some b:=fun id b hi=>by
  unfold cutB at hi
  split at hi
  ·exact ⟨‹_›,hi⟩
  ·cases hi
 refine ⟨h.below,h.n0,h.Ilt,h.Iold,fun id b hi=>?_,fun id id' b h1 h2=>h.Binj id id' b (hB id b h1).2 (hB id' b h2).2,fun id cs hi=>?_,fun g e hg=>⟨(h.glob g e hg).1,?_⟩,fun id hi=>?_,h.Klt,h.Kblk,fun t m e ht=>?_⟩
 ·obtain ⟨h1,h2⟩:=hB id b hi
  obtain ⟨a1,a2,a3,a4⟩:=h.Blt id b h2
  refine ⟨by simp; omega,a2,a3,fun o ho=>?_⟩
  obtain ⟨cs,hf,hd⟩:=a4 o ho
  exact ⟨cs,by simp only [List.getElem?_take_of_lt h1]; exact hf,hd⟩
 ·have hlt:id < n:=by
   have:=(List.getElem?_eq_some_iff.1 hi).1
   simp at this; omega
  have hi':S.boxes[id]? = some (some cs):=by
   have:=hi
   simp only [List.getElem?_take_of_lt hlt] at this
   exact this
  obtain ⟨blk,hB',hx⟩:=h.box id cs hi'
  have hpb:=boxesOk_at _ hb id cs hi
  refine ⟨blk,by simp [cutB,hlt,hB'],?_⟩
  cases hx with
  | row arr ty hr hh hn hc=>exact .row arr ty hr hh hn fun i c v hi hv=>⟨(hc i c v hi hv).1.cut (hpb hr c (List.mem_of_getElem? hi)),(hc i c v hi hv).2⟩
  | iter s pos hcs hh=>exact .iter s pos hcs hh
  | map t n es k e D hcs hk hg hD ho=>exact .map t n es k e D hcs hk hg hD ho
  | own sz es f arr ty hcs hh hsz hcl hc hf=>exact .own sz es f arr ty hcs hh hsz hcl (fun i e j c hi hj=>by
    obtain ⟨v,k1,k2,k3⟩:=hc i e j c hi hj
    exact ⟨v,k1,k2.rebase (closed_closed1 (closed1_cells (hcl e (List.mem_of_getElem? hi)) hj)) _ _,k3⟩) hf
  | dead hcs=>exact .dead hcs
 ·exact ⟨(h.glob g e hg).2.1.cut (.elt _ _ _ _),(h.glob g e hg).2.2⟩
 ·have hlt:id < n:=by
   have:=(List.getElem?_eq_some_iff.1 hi).1
   simp at this; omega
  have hi':S.boxes[id]? = some none:=by
   have:=hi
   simp only [List.getElem?_take_of_lt hlt] at this
   exact this
  simp [cutB,hlt,h.hole id hi']
 ·obtain ⟨v,xs,sz,hsz,hown,hu,hK,hg⟩:=h.live t m e ht
  refine ⟨v,xs,sz,hsz,hown,hu,hK,fun g hg'=>?_⟩
  obtain ⟨a1,a2,a3⟩:=hg g hg'
  exact ⟨a1,fun id hid=>a2 id (hB id g hid).2,a3⟩
theorem runA_ok {R:Callee} {C:ICallee} (hm:P.follows .mixedOrders = true) (hR:CalleeOk P G R) (hC:ICalleeOk P G C) (n:Nat) (hint:FuncId→List Bool) {f:FuncId} {args:List AV} {S S':St} {r:AV} (h:runA P G R C (fuelL n) hint f args S = some (r,S')) :
  goodFn P f∧∀ (N0:Nat→Prop) (w0:World) (I0:Nat→Nat→Prop) (E:Env) (w:World) (vs:Array Value),SR P G N0 w0 I0 S E w→vs.size = args.length→(∀ (i:Nat) (c:AV) (v:Value),args[i]? = some c→vs[i]? = some v→Rep E w c v) →
   Calls P f vs w fun e w'=>∃ v E',e = .returned v∧SR P G N0 w0 I0 S' E' w'∧Env.Le E E' w w'∧Rep E' w' r v:=by
 unfold runA at h
 split at h
 ·cases h
 ·rename_i fn hf
  split at h
  ·cases h
  ·rename_i c hb
   split at h
   ·cases h
   ·rename_i hname
    refine ⟨⟨fn,hf,by rw [hb]; rfl,by simpa using hname⟩,fun N0 w0 I0 E w vs hS hn hv=>?_⟩
    have hT0:TR E w (args ++ List.replicate (fn.ntmps - args.length) (.tup [])) (vs ++ Array.replicate (fn.ntmps - vs.size) undef):=by
     refine ⟨by simp [hn],fun i c v hi hv'=>?_⟩
     by_cases hlt:i < args.length
     ·rw [List.getElem?_append_left hlt] at hi
      rw [Array.getElem?_append_left (by omega)] at hv'
      exact hv i c v hi hv'
     ·rw [List.getElem?_append_right (by omega),List.getElem?_replicate] at hi
      rw [Array.getElem?_append_right (by omega),Array.getElem?_replicate] at hv'
      split at hi
      ·split at hv'
       ·simp at hi hv'; subst hi; subst hv'
        exact rep_undef
       ·cases hv'
      ·cases hi
    have hcode:=(codeA_wp (N0:=N0) (w0:=w0) (I0:=I0) hm hR hC n (hint f) c).1
    have fin:∀ (x:AExit) (T:List AV) (S1:St),codeA P G R C (fuelL n) (hint f) c (args ++ List.replicate (fn.ntmps - args.length) (.tup [])) S = some (x,T,S1)→(x = .normal∨x = .ret) →
      (∃ us,resultsA P T S1 fn.results.toList = some us∧packA us = r∧S1 = S')→Calls P f vs w fun e w'=>∃ v E',e = .returned v∧SR P G N0 w0 I0 S' E' w'∧Env.Le E E' w w'∧Rep E' w' r v:=by
     intro x T S1 hcd hx ⟨us,hus,hp,hs⟩
     subst hp; subst hs
     refine calls_of_wp hf hb (hcode _ _ x T S1 E _ w _ hcd hS hT0 fun E' w' a' h1 h2 h3 h4=>?_)
     obtain ⟨v,hv,hrep⟩:=results_run h1 h3 hus
     rcases hx with rfl | rfl
     ·exact ⟨h4,v,hv,v,E',rfl,h1,h2,hrep⟩
     ·exact ⟨h4,v,hv,v,E',rfl,h1,h2,hrep⟩
    split at h
    ·rename_i T S1 hcd
     split at h
     ·rename_i us hus
      simp only [Option.some.injEq,Prod.mk.injEq] at h
      exact fin .normal T S1 hcd (.inl rfl) ⟨us,hus,h.1,h.2⟩
     ·cases h
    ·rename_i T S1 hcd
     split at h
     ·rename_i us hus
      simp only [Option.some.injEq,Prod.mk.injEq] at h
      exact fin .ret T S1 hcd (.inr rfl) ⟨us,hus,h.1,h.2⟩
     ·cases h
    ·cases h
theorem funcA_ok {R:Callee} {C:ICallee} (hm:P.follows .mixedOrders = true) (hR:CalleeOk P G R) (hC:ICalleeOk P G C) (n:Nat) (hint:FuncId→List Bool):CalleeOk P G (funcA P G R C (fuelL n) hint):=by
 intro f args r lv h
 unfold funcA at h
 split at h
 ·rename_i r0 S hr
  split at h
  case h_2=>cases h
  rename_i r1 S1 hgv
  obtain ⟨hg,hcall⟩:=runA_ok hm hR hC n hint hr
  refine fun E w vs hI hG hn hv hcl=>.inl ⟨hg,?_⟩
  have hS0:SR P G (· < w.heap.size) w E.I ⟨[],[]⟩ ⟨E.I,fun _=>none,fun _ _ _=>False⟩ w:=
   ⟨BelowQ.refl _ _,fun _ h=>h,hI,fun b o h _=>h,fun id b h=>(nomatch h),fun id id' b h=>(nomatch h),fun id cs h=>(nomatch h),fun g e hg=>⟨(hG g e hg).1,rep_elt_rebase (hG g e hg).2.1 _ _,(hG g e hg).2.2⟩,fun id h=>(nomatch h),fun t n v h=>False.elim h,fun t n v h=>False.elim h,fun t n e h=>(nomatch h)⟩
  refine (hcall _ _ _ _ w vs hS0 hn fun i c v hi hv'=>(hv i c v hi hv').rebase (hcl c (List.mem_of_getElem? hi)) _ _).mono fun e w' ⟨v,E',he,h1,h2,h3⟩=>?_
  obtain ⟨E1,k1,k2,k3⟩:=giveA_ok h1 hgv h3
  exact ⟨v,he,normA_res (E0:=E) k1 (fun b o hi=>(k2.I b o (h2.I b o hi).1).1) h k3⟩
 ·cases h
theorem funcI_ok {R:Callee} {C:ICallee} (hm:P.follows .mixedOrders = true) (hR:CalleeOk P G R) (hC:ICalleeOk P G C) (n:Nat) (hint:FuncId→List Bool):ICalleeOk P G (funcI P G R C (fuelL n) hint):=by
 intro f args S r S' h
 unfold funcI at h
 split at h
 ·rename_i r0 S1 hr
  obtain ⟨hg,hcall⟩:=runA_ok hm hR hC n hint hr
  split at h
  ·rename_i hok
   simp only [Bool.and_eq_true] at hok
   simp only [Option.some.injEq,Prod.mk.injEq] at h
   obtain ⟨rfl,rfl⟩:=h
   refine ⟨hg,fun N0 w0 I0 E w vs hS hn hv=>(hcall N0 w0 I0 E w vs hS hn hv).mono fun e w' ⟨v,E',he,h1,h2,h3⟩=>?_⟩
   refine ⟨v,⟨E'.I,cutB S.boxes.length E'.B,E'.K⟩,he,h1.cut hok.2,⟨h2.I,fun b x hb=>?_,h2.K,h2.Z⟩,h3.cut (pb2 hok.1)⟩
   have:=(hS.Blt b x hb).1
   simp [cutB,this,h2.B b x hb]
  ·cases h
 ·cases h
theorem funcJ_ok {R:Callee} {C:ICallee} (hm:P.follows .mixedOrders = true) (hR:CalleeOk P G R) (hC:ICalleeOk P G C) (n:Nat) (hint:FuncId→List Bool):ICalleeOk P G (funcJ P G R C (fuelL n) hint):=by
 intro f args S r S' h
 unfold funcJ at h
 split at h
 ·cases h
 ·exact funcI_ok hm hR hC n hint f args S r S' h
theorem orA_ok {R0 R:Callee} (h0:CalleeOk P G R0) (h:CalleeOk P G R):CalleeOk P G (orA R0 R):=by
 intro f args r lv hr
 unfold orA at hr
 split at hr
 ·rename_i x hx
  simp only [Option.some.injEq] at hr
  subst hr
  exact h0 f args r lv hx
 ·exact h f args r lv hr
theorem evs_ok (hm:P.follows .mixedOrders = true) {R0:Callee} (h0:CalleeOk P G R0) (hint:FuncId→List Bool):∀ n,CalleeOk P G (evs P G R0 hint n).1∧ICalleeOk P G (evs P G R0 hint n).2
 | 0=>⟨h0,noC_ok⟩
 | n + 1=>⟨orA_ok h0 (funcA_ok hm (evs_ok hm h0 hint n).1 (evs_ok hm h0 hint n).2 n hint),funcJ_ok hm (evs_ok hm h0 hint n).1 (evs_ok hm h0 hint n).2 n hint⟩
end
end Go.Abs
