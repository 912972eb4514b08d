/- Own texts, part 11. -/
import Derived.Test.YtpglogahncpnoaaPart9
import Derived.Test.YtpglogahncpnoaaPart10
import Derived.Test.YtpglogahncpnoaaPart3
import Derived.SizedLaws
import Derived.Test.YtpglogahncpnoaaRows
import Derived.LaidLaws
import Derived.Lay
import Derived.Shelf.Lay

namespace Go.Abs
open Go.Proofs Go.RowKit
theorem p6 (m:Int) (l:List Int) (turn:Int) (hl2:l.length≤140737488351232):PureOk PI (GI m) (XO6 l) (tbl t6) (itbl []) (a6 l turn) [] 6 [.sl 1 (intsA l) .no,.int .i64 turn] (.bool true,[]):=by
 constructor
 rw [w6]
 have hll:(intsA l).length = l.length:=List.length_map ..
 rw [hll]
 refine ⟨⟨rfl⟩,fun _=>⟨fun _=>⟨rfl⟩,fun h60=>⟨fun _=>⟨rfl⟩,fun h0=>⟨fun _=>⟨rfl⟩,fun ht0=>⟨fun _=>⟨rfl⟩,fun ht1=>?_⟩⟩⟩⟩,nofun⟩
 have h60:=of_decide_eq_false h60
 have ht0:=of_decide_eq_false ht0
 have ht1:=of_decide_eq_false ht1
 have h0:¬ (l.length:Int) = 0:=by simpa using h0
 obtain ⟨P,hP⟩:∃ P,numP l = P:=⟨_,rfl⟩
 have hPl:P.length = l.length:=by rw [← hP,numP_len]
 have hPok:OkPs P:=hP ▸ numP_ok (by omega)
 have happ:∀ p ∈ P,p.1 = appN:=fun p hp=>by
  rw [← hP] at hp
  obtain ⟨x,_,rfl⟩:=List.mem_map.1 hp
  rfl
 have hPne:P ≠ []:=fun e=>by rw [e] at hPl; simp at hPl; omega
 have h17:tbl t6 17 [.sl 1 (intsA l) .no] = some (.sl 11 (pksL (seL P)) (.tok 0),[(l.length,35)]):=by
  rw [tbl_miss (by decide),tbl_hit]
  simp only [s17]
  rw [if_pos ⟨trivial,by rw [hll]; omega⟩,show unL unIn (intsA l) = some l from unL_map (f:=unIn) (g:=AV.int .i64) (fun _=>rfl) l]
  simp only [hP]
 rw [hP]
 have hpl:∀ ps:Arr,(pksL (seL ps)).length = ps.length:=fun ps=>by rw [pksL_len,seL_len]
 obtain ⟨k,hk⟩:∃ k:Nat,turn = k:=⟨turn.toNat,by omega⟩
 subst hk
 have hkl:k < P.length:=by omega
 have h18:∀ (ps:Arr) (o:Own),(∀ p,p ∈ P ↔ p ∈ ps)→ps.length≤200→CallIs (tbl t6 18 [.agg [.sl 0 [] o],.sl 11 (pksL (seL ps)) .no]) (.tup [.agg [.sl 3 (bxsL (allS P)) .no],.int .i64 (cntS P),.bool true]) []:=fun ps o h h2=>⟨by
  rw [tbl_miss (by decide),tbl_miss (by decide)]; exact c18x hPok h h2⟩
 have rM:RcvP (allS P):=allS_ok P [] rcv_nil
 have h13:CallIs (tbl t6 13 [.agg [.sl 3 (bxsL (allS P)) .no],.agg [.sl 3 (bxsL (allS P)) .no]]) (.bool true) []:=⟨by
  rw [tbl_miss (by decide),tbl_miss (by decide),tbl_miss (by decide),tbl_miss (by decide)]; exact c13x rM⟩
 obtain ⟨b,hb,hbs,hb1,hb2⟩:=one_box hPok happ hPne
 have hmr:∀ p,p ∈ P ↔ p ∈ P.reverse ++ P:=fun p=>by simp
 refine ⟨pksL (seL P),⟨by rw [h17,hpl,hPl]⟩,⟨0,⟨?_⟩,⟨by rw [hpl,hPl]; rfl⟩,Nat.zero_le _,trivial⟩,fun x hx=>⟨fun hlt=>?_,fun hge=>?_⟩⟩
 ·rw [hpl,hPl,wrap64_in (by omega) (by omega)]
  simp
 ·have hlt:=of_decide_eq_true hlt
  have hlt:(0:Int)≤(l.length:Int) - 1 - x:=hlt
  have hxl:x < l.length:=by omega
  have hidx:((l.length:Int) - 1 - x).toNat = l.length - 1 - x:=by omega
  have hrev:P.reverse.length = l.length:=by rw [List.length_reverse,hPl]
  have hrx:P.reverse[x]? = some (P[l.length - 1 - x]'(by omega)):=by
   rw [List.getElem?_reverse (by omega),List.getElem?_eq_getElem (by omega)]
   congr 2
   omega
  have hrl:∀ n,n≤l.length→(P.reverse.take n).length = n:=fun n hn=>by rw [List.length_take]; omega
  refine ⟨⟨by omega,by rw [hpl,hPl]; omega⟩,_,_,_,_,_,_,_,_,_,_,_,by rw [hidx]; exact take_se (List.getElem?_eq_getElem (by omega)),.inl rfl,by rw [hpl,hrl _ hx]; omega,by rw [hpl],x + 1,⟨?_⟩,⟨?_⟩,hxl,by omega⟩
  ·rw [wrap64_in (by omega) (by omega),show (l.length:Int) - 1 - x - 1 = (l.length:Int) - 1 - ((x + 1:Nat):Int) by omega]
   obtain ⟨hxr,hxe⟩:=List.getElem?_eq_some_iff.1 hrx
   rw [List.take_succ_eq_append_getElem hxr,hxe]
   simp only [pksL,seL,List.map_append,List.map_cons,List.map_nil]
   rfl
  ·rw [hpl,hrl _ hx,hrl _ hxl]
 ·have hge:=of_decide_eq_false hge
  have hge:¬ (0:Int)≤(l.length:Int) - 1 - x:=hge
  have hxl:x = l.length:=by omega
  subst hxl
  have hrt:P.reverse.take l.length = P.reverse:=List.take_of_length_le (by rw [List.length_reverse,hPl]; exact Nat.le_refl _)
  have hrl:P.reverse.length = l.length:=by rw [List.length_reverse,hPl]
  rw [hrt,hrl,Int.toNat_natCast]
  have hDT:List.drop k (List.take (pksL (seL P)).length (pksL (seL P))) = pksL (seL (P.drop k)):=by rw [List.take_length,← List.map_drop,← List.map_drop]
  have hTT:List.drop 0 (List.take k (pksL (seL P))) = pksL (seL (P.take k)):=by rw [List.drop_zero,← List.map_take,← List.map_take]
  rw [hDT,hTT]
  have hDne:pksL (seL (P.drop k)) ≠ []:=fun e=>by
   have:=congrArg List.length e
   rw [hpl,List.length_drop] at this
   simp at this; omega
  have hrot:[] ++ pksL (seL (P.drop k)) ++ pksL (seL (P.take k)) = pksL (seL (rotA P k)):=by simp [rotA,pksL,seL]
  have hrotl:(rotA P k).length≤200:=by unfold rotA; rw [List.length_append,List.length_drop,List.length_take]; omega
  have hrev2:pksL (seL P.reverse) ++ pksL (seL P) = pksL (seL (P.reverse ++ P)):=by simp [pksL,seL]
  have hsize:(([] ++ pksL (seL (P.drop k))).length + (pksL (seL (P.take k))).length) * 137≤70368744177664:=by
   rw [List.nil_append,hpl,hpl,List.length_drop,List.length_take]; omega
  have hd0:(0 + (pksL (seL (P.drop k))).length) * 137≤70368744177664:=by rw [hpl,List.length_drop]; omega
  have hlp:(pksL (seL P)).length = l.length:=by rw [hpl,hPl]
  have hlr:(pksL (seL P.reverse)).length = l.length:=by rw [hpl,hrl]
  rw [hrot,hrev2,hlp,hlr]
  refine ⟨h18 P _ (fun _=>Iff.rfl) (by omega),fun _=>⟨⟨by omega,⟨by omega,Nat.le_refl _⟩,.inl rfl,?_,?_⟩,fun _ _ _=>⟨⟨.inl rfl,by omega,rfl,h18 _ _ hmr (by rw [List.length_append,hrl,hPl]; omega),fun _=>⟨(),⟨rfl⟩,⟨rfl⟩,trivial,trivial⟩,nofun⟩,fun _ _ _=>?_⟩⟩,nofun⟩
  ·exact fun _=>⟨.inl rfl,hd0,fun h=>absurd h hDne,fun _=>⟨by omega,⟨Nat.zero_le _,by omega⟩,.inl rfl,fun _=>⟨.inl rfl,hsize,by simp,h18 _ _ (mem_rot P k) hrotl,fun _=>⟨(),⟨rfl⟩,⟨rfl⟩,trivial,trivial⟩,nofun⟩,fun _=>⟨.inl rfl,hsize,by simp,h18 _ _ (mem_rot P k) hrotl,fun _=>⟨(),⟨rfl⟩,⟨rfl⟩,trivial,trivial⟩,nofun⟩⟩⟩
  ·exact fun _=>⟨.inl rfl,hd0,fun h=>absurd h hDne,fun _=>⟨by omega,⟨Nat.zero_le _,by omega⟩,.inl rfl,fun _=>⟨.inl rfl,hsize,by simp,h18 _ _ (mem_rot P k) hrotl,fun _=>⟨(),⟨rfl⟩,⟨rfl⟩,trivial,trivial⟩,nofun⟩,fun _=>⟨.inl rfl,hsize,by simp,h18 _ _ (mem_rot P k) hrotl,fun _=>⟨(),⟨rfl⟩,⟨rfl⟩,trivial,trivial⟩,nofun⟩⟩⟩
  ·have hcc:((cntS P:Int) == (cntS P:Int)) = true:=by simp
   have h10:CallIs (tbl t6 10 [.agg [.sl 3 (bxsL (allS P)) .no],pkA (sentP P[k])]) (.tup [.agg [.sl 3 (bxsL (allS P)) .no],.bool false,.agg [.str appN,.bool true,.int .i64 b.next,.str [],.int .i64 0,.int .i64 0,.int .i64 0,.str [],.str [],.int .i64 0,.sl 3 [] .no],.int .i64 0]) []:=⟨by
    rw [tbl_miss (by decide),tbl_miss (by decide),tbl_miss (by decide)]; exact c10x hPok hkl happ hb⟩
   have hlb:(bxsL (allS P)).length = 1:=by rw [hb]; rfl
   have htk:takeAt PI 3 (bxsL (allS P)) 0 1 = some (.int .i64 b.next):=by
    rw [hb]
    simp only [takeAt,List.map_cons,List.getElem?_cons_zero,takeA,agg3i,size3i]
    rfl
   have h19:=c19x (l:=[]) hPok happ hb1 hb2
   refine ⟨⟨by omega,by omega⟩,_,_,_,_,_,_,_,_,_,_,_,take_se (List.getElem?_eq_getElem hkl),b.next,h10,nofun,fun _=>⟨fun h=>?_,fun _=>⟨fun _=>⟨fun _=>⟨h13,fun _=>⟨h13,fun _=>⟨fun _=>⟨h13,fun _=>⟨⟨Int.le_refl _,by rw [hlb]; omega⟩,b.next,htk,fun _=>⟨.inl rfl,Nat.le_trans (show (l.length + 1) * 137≤100000 by omega) (by decide),rfl,⟨?_⟩,fun _=>⟨rfl⟩,nofun⟩,fun h=>?_⟩,nofun⟩,nofun⟩,nofun⟩,nofun⟩,fun h=>?_⟩,fun h=>?_⟩⟩⟩
   ·rw [hlb] at h; cases h
   ·rw [tbl_miss (by decide),tbl_miss (by decide),tbl_miss (by decide),tbl_miss (by decide),tbl_miss (by decide)]
    exact h19
   ·simp at h
   ·rw [hcc] at h; cases h
   ·rw [hcc] at h; cases h
def s6L:Spec:=fun args=>match args with
 | [.sl sz es .no,.int .i64 _]=>if sz = 1∧es.length≤140737488351232 then (match unL unIn es with
  | some _=>some (.bool true,[])
  | none=>none) else none
 | _=>none
theorem t6_ok (m:Int):CalleeOk PI (GI m) (tbl t6):=tbl_cons (o7 m) (tbl_cons (o17 m) (tbl_cons ((o18 m).wk) (tbl_cons (o10w m) (tbl_cons (o13 m) (tbl_cons ((o19 m).wk) tbl_nil)))))
theorem o6L (m:Int):SpecOk PI (GI m) 6 s6L:=spec_of' (m:=[]) mixedI fun args r h=>by
 unfold s6L at h
 split at h
 case h_2=>cases h
 split at h
 case isFalse=>cases h
 rename_i hz
 obtain ⟨rfl,h1⟩:=hz
 split at h
 case h_2=>cases h
 rename_i l hl
 obtain rfl:_ = intsA l:=unL_inv unIn_inv hl
 injection h with h; subst h
 rw [List.length_map] at h1
 exact ⟨XO6 l,tbl t6,itbl [],a6 l _,t6_ok m,itbl_nil,p6 m l _ h1⟩
theorem s6L_true (l:List Int) (turn:Int) (h:l.length≤140737488351232):s6L [.sl 1 (intsA l) .no,.int .i64 turn] = some (.bool true,[]):=by
 simp only [s6L]
 rw [if_pos ⟨trivial,by rw [List.length_map]; omega⟩,show unL unIn (intsA l) = some l from unL_map (f:=unIn) (g:=AV.int .i64) (fun _=>rfl) l]
end Go.Abs
namespace Go.Abs
open Go.ChangeShapes Go.WideShapes Go.ChangeAt Go.RowKit Go.Deep Go.ChangeMaps
open Go.Proofs Go.Proofs.Ytpglogahncpnoaa
section
variable {H : Type} {enc : TypeId × Value → H} {P : Program} {W : World}
def ElemR (P:Program) (W:World) (enc:TypeId × Value→H) (e:TypeId) {α:Type} (g:α→AV) (Q:α→DataW H→Prop):Prop:=
 ∀ n cs x,DataW.trod enc P W 0 (fun _=>true) true n e cs = some x→∃ a:α,Q a x.1∧∀ (j:Nat) (c:AV) (u:Value),(g a).cells[j]? = some c→cs[j]? = some u→Rep (oldE W) W c u∧u.oneCell' = true
theorem open_slR {t e:TypeId} {sz:Nat} {α:Type} [Inhabited α] {g:α→AV} {Q:α→DataW H→Prop} (ht:P.underlying t = some (.slice e)) (hc:P.cellsOf e = sz) (hsz:0 < sz) (hg:∀ a,(g a).cells.length = sz∧(g a).closed1 = true) (hel:ElemR P W enc e g Q)
  {v:Value} {d:DataW H} {ps:List MemPlace} (hv:∃ A len cap,v = .slice A len cap) (h:DataW.Trod enc P W 0 (fun _=>true) true t v d ps) :
  ∃ l:List α,Rep (oldE W) W (.sl sz (l.map g) .no) v∧(l = []∨∃ elems spare,d = .slice elems spare∧elems.length = l.length∧∀ (i:Nat) a x,l[i]? = some a→elems[i]? = some x→Q a x):=by
 obtain ⟨a,len,cap,rfl⟩:=hv
 obtain ⟨fuel,h⟩:=h
 rcases open_slice ht h with ⟨hcs,_⟩ | ⟨a',len',cap',m,n,D,Pl,hcs,hb,hl,hmx,hm,hx,hels⟩
 ·simp [Value.cells] at hcs
  obtain ⟨rfl,rfl,rfl⟩:=hcs
  exact ⟨[],.sl sz [] .no none 0 (fun _ _=>.bool false) (by simp) (by simp [maxLen]) (.inl rfl) (by simp) (by simp) trivial (by simp) (fun _ _=>rfl),.inl rfl⟩
 ·simp [Value.cells] at hcs
  obtain ⟨rfl,rfl,rfl⟩:=hcs
  have hm':m = cap:=by simpa using hm
  have hch:∀ i,i < len→∃ x:α × List Value,x.2.length = sz∧(∀ j,j < sz→W.cell? (a'.add (i * sz + j)) = x.2[j]?)∧Q x.1 (D i)∧∀ (j:Nat) (c:AV) (u:Value),(g x.1).cells[j]? = some c→x.2[j]? = some u→Rep (oldE W) W c u∧u.oneCell' = true:=fun i hi=>by
   obtain ⟨cs,hcs,ht'⟩:=hels i (by omega)
   rw [hc] at hcs
   obtain ⟨_,hlen,hat⟩:=World.cells?_some hcs
   obtain ⟨x,hq,hx⟩:=hel n cs _ ht'
   refine ⟨(x,cs),hlen,fun j hj=>?_,hq,hx⟩
   have:=hat j hj
   rw [Go.Deep.add_add] at this
   exact this
  obtain ⟨f,hf⟩:=choose_lt hch
  refine ⟨(List.range len).map fun i=>(f i).1,?_,.inr ?_⟩
  ·have hlen:((List.range len).map fun i=>(f i).1).length = len:=by simp
   have hln:(((List.range len).map fun i=>(f i).1).map g).length = len:=by simp
   have hget:∀ (i:Nat) (e':AV),(((List.range len).map fun i=>(f i).1).map g)[i]? = some e'→i < len∧e' = g (f i).1:=fun i e' h=>by
    have hi:i < len:=by
     have:=(List.getElem?_eq_some_iff.1 h).1
     simpa using this
    refine ⟨hi,?_⟩
    simp [List.getElem?_range hi] at h
    exact h.symm
   let u:Nat→Nat→Value:=fun i j=>if i < len∧j < sz then ((f i).2[j]?).getD (.bool false) else .bool false
   have hu:∀ i j,i < len→j < sz→(f i).2[j]? = some (u i j):=fun i j hi hj=>by
    have h2:j < (f i).2.length:=by rw [(hf i hi).1]; exact hj
    simp only [u,hi,hj,and_self,if_true,List.getElem?_eq_getElem h2,Option.getD_some]
   have key:=Rep.sl (E:=oldE W) (w:=W) sz (((List.range len).map fun i=>(f i).1).map g) .no (some a') cap u (by rw [hln]; exact hl) hmx ?_ ?_ ?_ trivial ?_ ?_
   ·rw [hln] at key; exact key
   ·rcases Nat.eq_zero_or_pos len with h0 | h0
    ·left; subst h0; rfl
    ·right
     have h1:=(hf 0 h0).2.1 0 hsz
     rw [hu 0 0 h0 hsz] at h1
     have hadd:a'.add (0 * sz + 0) = a':=by unfold Addr.add; simp
     rw [hadd] at h1
     have hp:=addr_plain h1
     refine ⟨a'.block,a'.off,by rw [← hp],fun i e' j c hi hj=>?_⟩
     obtain ⟨hlt,rfl⟩:=hget i e' hi
     have hjs:j < sz:=by
      have:=(List.getElem?_eq_some_iff.1 hj).1
      rw [(hg _).1] at this; exact this
     have h2:=(hf i hlt).2.1 j hjs
     rw [hu i j hlt hjs,hp,addp] at h2
     have e:a'.off + i * sz + j = a'.off + (i * sz + j):=by omega
     refine ⟨cell_lt h1,by rw [e]; exact h2⟩
   ·intro e' he
    obtain ⟨x,hx,rfl⟩:=List.mem_map.1 he
    exact (hg x).1
   ·intro e' he
    obtain ⟨x,hx,rfl⟩:=List.mem_map.1 he
    exact (hg x).2
   ·intro i e' j c hi hj
    obtain ⟨hlt,rfl⟩:=hget i e' hi
    have hjs:j < sz:=by
     have:=(List.getElem?_eq_some_iff.1 hj).1
     rw [(hg _).1] at this; exact this
    exact ((hf i hlt).2.2.2 j c (u i j) hj (hu i j hlt hjs)).1
   ·intro i j
    by_cases hij:i < len∧j < sz
    ·have hjs:j < (g (f i).1).cells.length:=by rw [(hg _).1]; exact hij.2
     exact ((hf i hij.1).2.2.2 j _ (u i j) (List.getElem?_eq_getElem hjs) (hu i j hij.1 hij.2)).2
    ·simp only [u,if_neg hij]; rfl
  ·have hx1:=congrArg Prod.fst hx
   simp only at hx1
   refine ⟨_,_,hx1,by simp,fun i a x hi hxi=>?_⟩
   have hlt:i < len:=by
    have:=(List.getElem?_eq_some_iff.1 hi).1
    simpa using this
   simp [List.getElem?_range hlt] at hi hxi
   subst hi; subst hxi
   exact (hf i hlt).2.2.1
/-! cells that read so -/
def CellsAre (W:World) (l:List AV) (cs:List Value):Prop:=
 l.length = cs.length∧∀ (j:Nat) (c:AV) (u:Value),l[j]? = some c→cs[j]? = some u→Rep (oldE W) W c u∧u.oneCell' = true
theorem CellsAre.one {c:AV} {u:Value} (h:Rep (oldE W) W c u) (h1:u.oneCell' = true):CellsAre W [c] [u]:=⟨rfl,fun j c' u' hc hu=>by
 match j,hc,hu with
 | 0,hc,hu=>simp at hc hu; subst hc; subst hu; exact ⟨h,h1⟩⟩
theorem CellsAre.append {l r:List AV} {cs ds:List Value} (h:CellsAre W l cs) (k:CellsAre W r ds):CellsAre W (l ++ r) (cs ++ ds):=by
 refine ⟨by simp [h.1,k.1],fun j c u hc hu=>?_⟩
 rcases Nat.lt_or_ge j l.length with hj | hj
 ·rw [List.getElem?_append_left hj] at hc
  rw [List.getElem?_append_left (by rw [← h.1]; exact hj)] at hu
  exact h.2 j c u hc hu
 ·rw [List.getElem?_append_right hj] at hc
  rw [List.getElem?_append_right (by rw [← h.1]; exact hj),← h.1] at hu
  exact k.2 _ c u hc hu
theorem CellsAre.next {l r:List AV} {cs:List Value} {o s p:Nat} (h:CellsAre W l ((cs.drop o).take s)) (hp:p = o + s) (k:CellsAre W r (cs.drop p)):CellsAre W (l ++ r) (cs.drop o):=by
 subst hp
 have:=h.append k
 rwa [← List.drop_drop,List.take_append_drop] at this
theorem CellsAre.last {l:List AV} {cs:List Value} {o s:Nat} (h:CellsAre W l ((cs.drop o).take s)) (hs:cs.length = o + s):CellsAre W l (cs.drop o):=by
 rwa [List.take_of_length_le (by rw [List.length_drop]; omega)] at h
def wmax {H:Type} (P:Program) (t:TypeId) (d:DataW H):Nat:=(DataW.weights P t d).foldr max 0
theorem le_foldr:∀ {l:List Nat} {k:Nat},k ∈ l→k≤l.foldr max 0
 | a :: l,k,h=>by
  simp only [List.foldr_cons]
  rcases List.mem_cons.1 h with rfl | h
  ·omega
  ·have:=le_foldr h; omega
theorem foldr_le:∀ {l:List Nat} {m:Nat},(∀ k ∈ l,k≤m)→l.foldr max 0≤m
 | [],m,_=>Nat.zero_le _
 | a :: l,m,h=>by
  simp only [List.foldr_cons]
  have:=h a List.mem_cons_self
  have:=foldr_le fun k hk=>h k (List.mem_cons_of_mem _ hk)
  omega
theorem wmax_mono {t u:TypeId} {d e:DataW H} (h:∀ k ∈ DataW.weights P t d,k ∈ DataW.weights P u e):wmax P t d≤wmax P u e:=foldr_le fun k hk=>le_foldr (h k hk)
theorem wmax_arg {ts:List TypeId} {ds:List (DataW H)} (h:(DataW.weightsEach P ts ds).all (·≤reachBytes) = true) {j:Nat} {t:TypeId} {d:DataW H} (ht:ts[j]? = some t) (hd:ds[j]? = some d):wmax P t d≤140737488351232:=
 foldr_le fun k hk=>by
  have:=List.all_eq_true.1 h _ (DataW.weights_mem_each ht hd k hk)
  exact of_decide_eq_true this
theorem weightsAll_mem {e:TypeId}:∀ {l:List (DataW H)} {d:DataW H},d ∈ l→∀ k ∈ DataW.weights P e d,k ∈ DataW.weightsAll P e l
 | x :: l,d,h,k,hk=>by
  simp only [DataW.weightsAll,List.mem_append]
  rcases List.mem_cons.1 h with rfl | h
  ·exact .inl hk
  ·exact .inr (weightsAll_mem h k hk)
def ReadsAs (P:Program) (W:World) (enc:TypeId × Value→H) (t:TypeId) {α:Type} (g:α→List AV) (Q:α→Nat→Prop):Prop:=
 ∀ n cs x,DataW.trod enc P W 0 (fun _=>true) true n t cs = some x→∃ a:α,Q a (wmax P t x.1)∧CellsAre W (g a) cs
theorem reads_int {t:TypeId} (ht:P.underlying t = some (.int .i64)):ReadsAs P W enc t (fun n:Int=>[.int .i64 n]) (fun n _=>-9223372036854775808≤n∧n≤9223372036854775807):=by
 intro n cs x h
 obtain ⟨k,rfl,_,hw⟩:=DataW.trod_int ht h
 have:=int_rng hw
 exact ⟨k,⟨this.1,by omega⟩,.one (.int _ _) rfl⟩
theorem reads_slice {t e:TypeId} {sz:Nat} {α:Type} [Inhabited α] {g:α→AV} {Q:α→Nat→Prop} (ht:P.underlying t = some (.slice e)) (hc:P.cellsOf e = sz) (hsz:0 < sz) (hby:1≤P.bytesOf e) (hg:∀ a,(g a).cells.length = sz∧(g a).closed1 = true) (hel:ReadsAs P W enc e (fun a=>(g a).cells) Q)
  (hQ:∀ a n m,Q a n→n≤m→Q a m):ReadsAs P W enc t (fun l:List α=>[.sl sz (l.map g) .no]) (fun l n=>l.length≤n∧∀ a ∈ l,Q a n):=by
 intro n cs x h
 have hs:∃ A len cap,cs = [.slice A len cap]:=by
  rcases open_slice ht h with ⟨hcs,_⟩ | ⟨a',len',cap',m,n,D,Pl,hcs,_⟩
  ·exact ⟨_,_,_,hcs⟩
  ·exact ⟨_,_,_,hcs⟩
 obtain ⟨A,len,cap,rfl⟩:=hs
 have hel':ElemR P W enc e g (fun a d=>Q a (wmax P e d)):=fun n cs x h=>by
  obtain ⟨a,h1,h2⟩:=hel n cs x h
  exact ⟨a,h1,h2.2⟩
 obtain ⟨l,hl,hb⟩:=open_slR ht hc hsz hg hel' ⟨A,len,cap,rfl⟩ (d:=x.1) (ps:=x.2) ⟨n,by simpa [Value.cells] using h⟩
 refine ⟨l,?_,.one hl rfl⟩
 rcases hb with rfl | ⟨elems,spare,he,hlen,hq⟩
 ·exact ⟨Nat.zero_le _,fun a ha=>by cases ha⟩
 ·rw [he]
  refine ⟨?_,fun a ha=>?_⟩
  ·have h1:(elems.length + spare.length) * P.bytesOf e≤wmax P t (DataW.slice elems spare):=le_foldr (by simp [DataW.weights,ht])
   have h2:=Nat.le_mul_of_pos_right (elems.length + spare.length) hby
   omega
  obtain ⟨i,hi⟩:=List.mem_iff_getElem?.1 ha
  have hlt:i < elems.length:=by rw [hlen]; exact (List.getElem?_eq_some_iff.1 hi).1
  have hx:=List.getElem?_eq_getElem hlt
  refine hQ a _ _ (hq i a _ hi hx) ?_
  refine wmax_mono fun k hk=>?_
  simp only [DataW.weights,ht,List.mem_cons,List.mem_append]
  exact .inr (.inl (weightsAll_mem (List.mem_of_getElem? hx) k hk))
/-! cells of any type -/
end
open Go.Proofs Go.Proofs.Ytpglogahncpnoaa
section
variable {H : Type} {enc : TypeId × Value → H} {P : Program} {W : World}
theorem ReadsAs.map {t:TypeId} {α β:Type} {g:α→List AV} {g':β→List AV} {Q:α→Nat→Prop} {Q':β→Nat→Prop} (h:ReadsAs P W enc t g Q) (f:α→β) (hg:∀ a,g a = g' (f a)) (hQ:∀ a n,Q a n→Q' (f a) n):ReadsAs P W enc t g' Q':=fun n cs x hx=>by
 obtain ⟨a,h1,h2⟩:=h n cs x hx
 exact ⟨f a,hQ a _ h1,by rw [← hg]; exact h2⟩
end
section
variable {H : Type} {enc : TypeId × Value → H} {W : World}
theorem cz3:PI.cellsOf 3 = 1:=by kernel_rfl
def rngI (n:Int):Prop:=-9223372036854775808≤n∧n≤9223372036854775807
theorem rInt:ReadsAs PI W enc 3 (fun n:Int=>[.int .i64 n]) (fun n _=>rngI n):=reads_int Try.underlying3
theorem rInts:ReadsAs PI W enc 68 (fun l:List Int=>[.sl 1 (intsA l) .no]) (fun l n=>l.length≤n):=fun n cs x h=>by
 obtain ⟨l,h1,h2⟩:=reads_slice (g:=AV.int .i64) Try.underlying68 cz3 (by omega) (by decide +kernel) (fun _=>⟨rfl,rfl⟩) rInt (fun _ _ _ h _=>h) n cs x h
 exact ⟨l,h1.1,h2⟩
/-! arguments -/
theorem open_one {t:TypeId} {α:Type} {g:α→AV} {Q:α→Nat→Prop} (hr:ReadsAs PI W enc t (fun a=>[g a]) Q) {v:Value} {d:DataW H} {ps:List MemPlace} (h1:∃ u,v.cells = #[u]∧v = u) (h:DataW.Trod enc PI W 0 (fun _=>true) true t v d ps):∃ a,Rep (oldE W) W (g a) v∧Q a (wmax PI t d):=by
 obtain ⟨u,hu,rfl⟩:=h1
 obtain ⟨fuel,h⟩:=h
 rw [hu] at h
 obtain ⟨a,q,c⟩:=hr fuel _ _ h
 exact ⟨a,(c.2 0 _ _ rfl rfl).1,q⟩
end
open Go.Proofs Go.Proofs.Ytpglogahncpnoaa
section
variable {W : World}
theorem nGlobI:0 < PI.globals.size:=by
 have:decide (0 < PI.globals.size) = true:=by kernel_rfl
 exact of_decide_eq_true this
theorem globI (hsh:W.ShapedOpen PI) {m:Int} (hm:W.cell? ⟨0,0,none⟩ = some (.int .i64 m)):GlobOk (GI m) (oldE W) W:=by
 refine globA (fun g e hg=>?_) fun g e hg=>?_
 ·match g,hg with
  | 0,hg =>
   simp only [GI,Option.some.injEq] at hg
   subst hg
   refine ⟨rfl,fun j c hj=>?_⟩
   match j,hj with
   | 0,hj=>simp [AV.cells] at hj; subst hj; exact ⟨_,hm,.int _ _,rfl⟩
   | j + 1,hj=>simp [AV.cells] at hj
  | g + 1,hg=>cases hg
 ·match g,hg with
  | 0,hg =>
   simp only [GI,Option.some.injEq] at hg
   subst hg
   exact glob_size hsh (n:=1) nGlobI (by kernel_rfl)
  | g + 1,hg=>cases hg
end
/-! what the bound on all that is read gives -/
theorem one_slice {P:Program} {W:World} {t e:TypeId} {v:Value} {b:Nat} (ht:P.underlying t = some (.slice e)) (h:Value.okWide P W .any b t v):∃ u,v.cells = #[u]∧v = u:=by
 obtain ⟨A,n,c,rfl⟩:=okWide_slice ht h
 exact ⟨_,rfl,rfl⟩
theorem one_int {P:Program} {W:World} {t:TypeId} {k:IntKind} {v:Value} {b:Nat} (ht:P.underlying t = some (.int k)) (h:Value.okWide P W .any b t v):∃ u,v.cells = #[u]∧v = u:=by
 obtain ⟨n,rfl⟩:=okWide_int ht h
 exact ⟨_,rfl,rfl⟩
theorem witness_row_shaped {H:Type} {enc:TypeId × Value→H} {C:Checked} {os:Os} {f:FuncId} {fn:Func} {s:OpenSpec} {conds:List PathCond} {apart:Bool} {laid:List (String × DataW Unit)} (w0:World) (args:Array Value) (hos:w0.os = os)
  (hsh:(w0.forCall (fun _ _=>0) ⟨#[],args,[]⟩).Shaped C.prog)
  (hok:Input.okWideB C.prog (w0.forCall (fun _ _=>0) ⟨#[],args,[]⟩) f ⟨#[],args,[]⟩ = true)
  (hrow:s.preRow enc C.prog fn conds apart laid (w0.forCall (fun _ _=>0) ⟨#[],args,[]⟩).memory args) :
  ∃ (w:World) (tape:Tape) (i:Input),w.os = os∧(w.forCall tape i).Shaped C.prog∧i.vars = []∧Input.okWide C.prog (w.forCall tape i) .any w.heap.size f i ∧
   s.preRow enc C.prog fn conds apart laid (w.forCall tape i).memory i.args∧({}:Assume).holds C.prog (lone (Frame.enter C.prog f i.args .normal) [] (w.forCall tape i)):=
 ⟨w0,fun _ _=>0,⟨#[],args,[]⟩,hos,hsh,(Input.okWide_of_okWideB (base:=0) hok).1,(Input.okWide_of_okWideB hok).2,hrow,by
  simp only [Assume.holds]
  exact ⟨by simp,by simp,fun _=>Modest.zero,by simp,by simp⟩⟩
open Go.Proofs Go.Proofs.Ytpglogahncpnoaa
theorem len_of {k n:Nat} (h:k≤n) (hn:n≤140737488351232):k≤140737488351232:=Nat.le_trans h hn
end Go.Abs
