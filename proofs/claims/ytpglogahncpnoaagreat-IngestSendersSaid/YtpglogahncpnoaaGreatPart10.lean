/- Own texts, part 10. -/
import Derived.Test.YtpglogahncpnoaaGreatPart9
import Derived.Test.YtpglogahncpnoaaGreatPart3
import Derived.SizedLaws
import Derived.Test.YtpglogahncpnoaaGreatRows
import Derived.Test.YtpglogahncpnoaaGreatPart7
import Derived.LaidLaws
import Derived.Lay
import Derived.Shelf.Lay

namespace Go.Abs
open Go.Proofs Go.RowKit
theorem cs9 {s:List UInt8} (h:s.length≤2000000):z10 [.str s] = some (.tup [sdA (srcP s).1,.int .i64 (srcP s).2],[]):=by
 simp only [z10]; rw [if_pos h]
theorem cs11 {s t:SdI} (h:s.l.length≤2000000) (hf:∀ f ∈ s.l,f.fs.length≤140737488351232):z11 [sdA s,sdA t] = some (.bool (decide (s = t)),[]):=by
 simp only [z11,unS_ok]
 rw [if_pos ⟨h,List.all_eq_true.2 fun f hf'=>by simpa using hf f hf'⟩]
theorem cs12 {s:SdI} (h1:s.nm.length≤140737488351232) (h2:s.l.length≤140737488351232) (h3:fcsOk s.l = true):z12 [sdA s] = some (.bool (decide (s.l.length≤64) && s.l.all smallB && sndOk s),[]):=by
 simp only [z12,unS_ok]
 rw [if_pos ⟨h1,h2,h3⟩]
theorem cs13 {s:SdI} {f:FcI} (h:s.l.length≤2000000) (hx:-4611686018427387904≤s.nx):s21 [sdA s,fcA f] = some (.tup [sdA (subP s f).1,pkA (subP s f).2.1,.int .i64 (subP s f).2.2],[]):=by
 unfold sdA fcA
 simp only [s21,unGs_ok]
 rw [show unL unV (vasL f.fs) = some f.fs from unL_map unV_ok f.fs]
 rw [if_pos ⟨.inl trivial,trivial,by rw [List.length_map]; exact h,hx⟩]
 rfl
theorem cs14 {s:SdI} {f:FcI} (h:s.l.length≤2000000) (hx:-4611686018427387904≤s.nx):z14 [sdA s,fcA f] = some (.tup [sdA (subP s f).1,pkA (subP s f).2.1,.int .i64 (subP s f).2.2],[]):=by
 unfold sdA fcA
 simp only [z14,unGs_ok]
 rw [show unL unV (vasL f.fs) = some f.fs from unL_map unV_ok f.fs]
 rw [if_pos ⟨trivial,trivial,by rw [List.length_map]; exact h,hx⟩]
 rfl
theorem cs15 {p q:PkI} (h:p.f.fs.length≤140737488351232):z15 [pkA p,pkA q] = some (.bool (decide (p = q)),[]):=by
 simp only [z15,unK_ok]
 rw [if_pos h]
theorem cs16 {s:SdI} (h:s.l.length≤2000000):s22 [sdA s] = some (.sl 11 (pksL (resP s.l)) .no,[]):=by
 unfold sdA
 simp only [s22,unGs_ok]
 rw [if_pos ⟨trivial,by rw [List.length_map]; exact h⟩]
theorem cs17 {s:SdI} (h:s.l.length≤2000000):z17 [sdA s] = some (.sl 11 (pksL (resR s.nm s.l)) .no,[]):=by
 unfold sdA
 simp only [z17,unGs_ok]
 rw [if_pos ⟨trivial,by rw [List.length_map]; exact h⟩]
theorem cs18 {s:SdI} {p:PkI} (h:s.l.length≤2000000):s23 [sdA s,pkA p] = some (.tup [sdA (ackP s p.src p.ack p.next).1,.int .i64 (ackP s p.src p.ack p.next).2],[]):=by
 unfold sdA pkA
 simp only [s23,unGs_ok]
 rw [if_pos ⟨.inl trivial,trivial,by rw [List.length_map]; exact h⟩]
 rfl
theorem cs19 {s:SdI} {p:PkI} (h:s.l.length≤2000000):z19 [sdA s,pkA p] = some (.tup [sdA (ackP s p.src p.ack p.next).1,.int .i64 (ackP s p.src p.ack p.next).2],[]):=by
 unfold sdA pkA
 simp only [z19,unGs_ok]
 rw [if_pos ⟨trivial,trivial,by rw [List.length_map]; exact h⟩]
 rfl
theorem chkS_src {nm:List UInt8}:∀ {l:List FcI} {k:Int},chkS nm k l = true→∀ f ∈ l,f.src = nm
 | [],_,_,f,hf=>by cases hf
 | g :: l,k,h,f,hf=>by
  simp only [chkS,Bool.and_eq_true,decide_eq_true_eq] at h
  rcases List.mem_cons.1 hf with rfl | hf
  ·exact h.1.1.1
  ·exact chkS_src h.2 f hf
theorem resP_eq {s:SdI} (h:sndOk s = true):resP s.l = resR s.nm s.l:=by
 simp only [sndOk,Bool.and_eq_true] at h
 unfold resP resR
 exact List.map_congr_left fun f hf=>by rw [chkS_src h.2 f hf]
def fcB (f:FcI):Prop:=f.src.length≤140737488351232∧f.table.length≤140737488351232∧f.key.length≤140737488351232∧f.fs.length≤140737488351232
theorem sub_len {s:SdI} {f:FcI} (h:s.l.length≤1500000):(subP s f).1.l.length≤2000000:=by
 unfold subP
 split
 ·simp
 ·split
  ·simp
  ·simp; omega
theorem sub_fs {s:SdI} {f:FcI} (h:∀ g ∈ s.l,g.fs.length≤140737488351232) (hf:f.fs.length≤140737488351232):∀ g ∈ (subP s f).1.l,g.fs.length≤140737488351232:=by
 unfold subP
 split
 ·simp
 ·split
  ·simp
  ·intro g hg
   rcases List.mem_append.1 hg with hg | hg
   ·exact h g hg
   ·obtain rfl:=List.mem_singleton.1 hg
    exact hf
theorem sub_pk {s:SdI} {f:FcI} (hf:f.fs.length≤140737488351232):(subP s f).2.1.f.fs.length≤140737488351232:=by
 unfold subP
 split
 ·simp
 ·split
  ·simp
  ·exact hf
theorem ack_sub {s:SdI} {src:List UInt8} {a:Bool} {n:Int}:∀ g ∈ (ackP s src a n).1.l,g ∈ s.l:=by
 unfold ackP
 split
 ·simp
 ·intro g hg
  exact (List.mem_filter.1 hg).1
theorem ack_len {s:SdI} {src:List UInt8} {a:Bool} {n:Int}:(ackP s src a n).1.l.length≤s.l.length:=by
 unfold ackP
 split
 ·simp
 ·exact List.length_filter_le _ _
theorem src_l (name:List UInt8):(srcP name).1.l = []:=by
 unfold srcP; split <;> rfl
theorem ct8 {f:FcI} (h:fcB f):tbl tz3 8 [.agg (fcC f)] = some (.bool (smallB f),[]):=by
 rw [tbl_miss (by decide),tbl_hit]; exact cy8 h
theorem ct9 {s:List UInt8} (h:s.length≤2000000):tbl tz3 9 [.str s] = some (.tup [.agg (sdCl (srcP s).1),.int .i64 (srcP s).2],[]):=by
 rw [tbl_miss (by decide),tbl_miss (by decide),tbl_hit]; exact cs9 h
theorem ct10 {s:List UInt8} (h:s.length≤2000000):tbl tz3 10 [.str s] = some (.tup [.agg (sdCl (srcP s).1),.int .i64 (srcP s).2],[]):=by
 rw [tbl_miss (by decide),tbl_miss (by decide),tbl_miss (by decide),tbl_hit]; exact cs9 h
theorem ct11 {s t:SdI} (h:s.l.length≤2000000) (hf:∀ f ∈ s.l,f.fs.length≤140737488351232):tbl tz3 11 [.agg (sdCl s),.agg (sdCl t)] = some (.bool (decide (s = t)),[]):=by
 rw [tbl_miss (by decide),tbl_miss (by decide),tbl_miss (by decide),tbl_miss (by decide),tbl_hit]; exact cs11 h hf
theorem ct12 {s:SdI} (h1:s.nm.length≤140737488351232) (h2:s.l.length≤140737488351232) (h3:fcsOk s.l = true):tbl tz3 12 [.agg (sdCl s)] = some (.bool (decide (s.l.length≤64) && s.l.all smallB && sndOk s),[]):=by
 rw [tbl_miss (by decide),tbl_miss (by decide),tbl_miss (by decide),tbl_miss (by decide),tbl_miss (by decide),tbl_hit]; exact cs12 h1 h2 h3
theorem ct13 {s:SdI} {f:FcI} (h:s.l.length≤2000000) (hx:-4611686018427387904≤s.nx):tbl tz3 13 [.agg (sdCl s),.agg (fcC f)] = some (.tup [.agg (sdCl (subP s f).1),.agg (pkCl (subP s f).2.1),.int .i64 (subP s f).2.2],[]):=by
 rw [tbl_miss (by decide),tbl_miss (by decide),tbl_miss (by decide),tbl_miss (by decide),tbl_miss (by decide),tbl_miss (by decide),tbl_hit]; exact cs13 h hx
theorem ct14 {s:SdI} {f:FcI} (h:s.l.length≤2000000) (hx:-4611686018427387904≤s.nx):tbl tz3 14 [.agg (sdCl s),.agg (fcC f)] = some (.tup [.agg (sdCl (subP s f).1),.agg (pkCl (subP s f).2.1),.int .i64 (subP s f).2.2],[]):=by
 rw [tbl_miss (by decide),tbl_miss (by decide),tbl_miss (by decide),tbl_miss (by decide),tbl_miss (by decide),tbl_miss (by decide),tbl_miss (by decide),tbl_hit]; exact cs14 h hx
theorem ct15 {p q:PkI} (h:p.f.fs.length≤140737488351232):tbl tz3 15 [.agg (pkCl p),.agg (pkCl q)] = some (.bool (decide (p = q)),[]):=by
 rw [tbl_miss (by decide),tbl_miss (by decide),tbl_miss (by decide),tbl_miss (by decide),tbl_miss (by decide),tbl_miss (by decide),tbl_miss (by decide),tbl_miss (by decide),tbl_hit]; exact cs15 h
theorem ct16 {s:SdI} (h:s.l.length≤2000000):tbl tz3 16 [.agg (sdCl s)] = some (.sl 11 (pksL (resP s.l)) .no,[]):=by
 rw [tbl_miss (by decide),tbl_miss (by decide),tbl_miss (by decide),tbl_miss (by decide),tbl_miss (by decide),tbl_miss (by decide),tbl_miss (by decide),tbl_miss (by decide),tbl_miss (by decide),tbl_hit]; exact cs16 h
theorem ct17 {s:SdI} (h:s.l.length≤2000000):tbl tz3 17 [.agg (sdCl s)] = some (.sl 11 (pksL (resR s.nm s.l)) .no,[]):=by
 rw [tbl_miss (by decide),tbl_miss (by decide),tbl_miss (by decide),tbl_miss (by decide),tbl_miss (by decide),tbl_miss (by decide),tbl_miss (by decide),tbl_miss (by decide),tbl_miss (by decide),tbl_miss (by decide),tbl_hit]; exact cs17 h
theorem ct18 {s:SdI} {p:PkI} (h:s.l.length≤2000000):tbl tz3 18 [.agg (sdCl s),.agg (pkCl p)] = some (.tup [.agg (sdCl (ackP s p.src p.ack p.next).1),.int .i64 (ackP s p.src p.ack p.next).2],[]):=by
 rw [tbl_miss (by decide),tbl_miss (by decide),tbl_miss (by decide),tbl_miss (by decide),tbl_miss (by decide),tbl_miss (by decide),tbl_miss (by decide),tbl_miss (by decide),tbl_miss (by decide),tbl_miss (by decide),tbl_miss (by decide),tbl_hit]; exact cs18 h
theorem ct19 {s:SdI} {p:PkI} (h:s.l.length≤2000000):tbl tz3 19 [.agg (sdCl s),.agg (pkCl p)] = some (.tup [.agg (sdCl (ackP s p.src p.ack p.next).1),.int .i64 (ackP s p.src p.ack p.next).2],[]):=by
 rw [tbl_miss (by decide),tbl_miss (by decide),tbl_miss (by decide),tbl_miss (by decide),tbl_miss (by decide),tbl_miss (by decide),tbl_miss (by decide),tbl_miss (by decide),tbl_miss (by decide),tbl_miss (by decide),tbl_miss (by decide),tbl_miss (by decide),tbl_hit]; exact cs19 h
set_option maxHeartbeats 1000000 in
theorem pz3 (m:Int) (name:List UInt8) (s:SdI) (f:FcI) (p:PkI) (hn:s.nm.length≤140737488351232) (hl:s.l.length≤140737488351232) (hs:fcsOk s.l = true) (hf:fcB f) (hp:fcB p.f):PureOk PI (GI m) XSe (tbl tz3) (itbl []) (az3 name s f p) [] 3 [.str name,.agg (sdCl s),.agg (fcC f),.agg (pkCl p)] (.bool true,[]):=by
 constructor
 rw [wz3]
 have hfs:∀ g ∈ s.l,g.fs.length≤140737488351232:=fun g hg=>(fcsOk_at hs hg).2.2.2
 have no:∀ {α:Type} [DecidableEq α] (x:α),¬ decide (x = x) = false:=fun x h=>by simp at h
 have ne:∀ x:Int,¬ (x != x) = true:=fun x h=>by simp at h
 have ni:∀ x:Int,¬ (x == x) = false:=fun x h=>by simp at h
 refine ⟨true,⟨rfl⟩,fun _=>⟨fun _=>⟨rfl⟩,fun h200=>?_⟩,fun h=>by cases h⟩
 have h2:name.length≤2000000:=by have:=of_decide_eq_false h200; omega
 refine ⟨smallB f,⟨ct8 hf⟩,fun _=>⟨smallB p.f,⟨ct8 hp⟩,fun _=>⟨fun _=>⟨rfl⟩,fun _=>?_⟩,fun _=>⟨rfl⟩⟩,fun _=>⟨rfl⟩⟩
 refine ⟨_,_,_,_,⟨ct9 h2⟩,_,_,_,_,⟨ct10 h2⟩,fun h=>(ne _ h).elim,fun _=>⟨decide ((srcP name).1 = (srcP name).1),⟨ct11 (by rw [src_l]; simp) (by rw [src_l]; simp)⟩,fun _=>⟨decide (s.l.length≤64) && s.l.all smallB && sndOk s,⟨ct12 hn (by omega) hs⟩,fun hsm=>?_,fun _=>⟨rfl⟩⟩,fun h=>(no _ h).elim⟩⟩
 simp only [Bool.and_eq_true,decide_eq_true_eq] at hsm
 obtain ⟨⟨h64,hsb⟩,hok⟩:=hsm
 have hnx:1≤s.nx:=by
  simp only [sndOk,Bool.and_eq_true,decide_eq_true_eq] at hok
  exact hok.1.1.1.2
 have hnx':-4611686018427387904≤s.nx:=by omega
 have hl2:s.l.length≤2000000:=by omega
 have hres:=resP_eq hok
 have hrl:(pksL (resP s.l)).length = s.l.length:=by simp [resP]
 have hrl2:(pksL (resR s.nm s.l)).length = s.l.length:=by simp [resR]
 refine ⟨_,_,_,_,_,_,_,_,_,_,_,_,_,_,_,⟨ct13 hl2 hnx'⟩,_,_,_,_,_,_,_,_,_,_,_,_,_,_,_,⟨ct14 hl2 hnx'⟩,fun h=>(ne _ h).elim,fun _=>⟨decide ((subP s f).1 = (subP s f).1),⟨ct11 (sub_len (by omega)) (sub_fs hfs hf.2.2.2)⟩,fun _=>⟨decide ((subP s f).2.1 = (subP s f).2.1),⟨ct15 (sub_pk hf.2.2.2)⟩,fun _=>⟨_,⟨ct16 hl2⟩,_,⟨ct17 hl2⟩,fun h=>?_,fun _=>⟨⟨0,⟨rfl⟩,⟨rfl⟩,Nat.zero_le _,trivial⟩,fun x hx=>⟨fun hlt=>?_,fun _=>?_⟩⟩⟩,fun h=>(no _ h).elim⟩,fun h=>(no _ h).elim⟩⟩
 ·rw [hrl,hrl2] at h; simp at h
 ·have hlt:=of_decide_eq_true hlt
  have hil:x < s.l.length:=by omega
  have hi1:x < (resP s.l).length:=by simpa [resP] using hil
  have hi2:x < (resR s.nm s.l).length:=by simpa [resR] using hil
  have heq:(resP s.l)[x] = (resR s.nm s.l)[x]:=by congr 1
  have hbf:(resP s.l)[x].f.fs.length≤140737488351232:=by
   have:(resP s.l)[x].f = s.l[x]:=by simp [resP]
   rw [this]
   exact hfs _ (List.getElem_mem hil)
  exact ⟨⟨by omega,hlt⟩,_,_,_,_,_,_,_,_,_,_,_,by rw [Int.toNat_natCast]; exact take_pk hi1,⟨by omega,by rw [hrl2]; omega⟩,_,_,_,_,_,_,_,_,_,_,_,by rw [Int.toNat_natCast]; exact take_pk hi2,decide ((resP s.l)[x] = (resR s.nm s.l)[x]),⟨ct15 hbf⟩,fun _=>⟨x + 1,⟨by rw [wrapN (by omega)]⟩,⟨rfl⟩,hil,by omega⟩,fun h=>by rw [decide_eq_true heq] at h; cases h⟩
 ·exact ⟨_,_,_,_,⟨ct18 hl2⟩,_,_,_,_,⟨ct19 hl2⟩,fun _=>⟨decide ((ackP s p.src p.ack p.next).1 = (ackP s p.src p.ack p.next).1),⟨ct11 (by have:=@ack_len s p.src p.ack p.next; omega) fun g hg=>hfs g (ack_sub g hg)⟩,fun _=>⟨rfl⟩,fun h=>(no _ h).elim⟩,fun h=>(ni _ h).elim⟩
def sd3 (s:SdI):Bool:=decide (s.nm.length≤140737488351232) && decide (s.l.length≤140737488351232) && fcsOk s.l
def ok3z (s:SdI) (f:FcI) (p:PkI):Bool:=decide (s.nm.length≤140737488351232) && decide (s.l.length≤140737488351232) && fcsOk s.l && fcsOk [f] && fcsOk [p.f]
def s3z:Spec:=fun args=>match args with
 | [.str _,a,b,c]=>match unS a,unG b,unK c with
  | some s,some f,some p=>if ok3z s f p = true then some (.bool true,[]) else none
  | _,_,_=>none
 | _=>none
theorem fcsOk_one {f:FcI} (h:fcsOk [f] = true):fcB f:=fcsOk_at h (List.mem_singleton.2 rfl)
theorem o3z (m:Int):SpecOk PI (GI m) 3 s3z:=spec_of (X:=XSe) (m:=[]) mixedI (tz3_ok m) itbl_nil fun args r h=>by
 unfold s3z at h
 split at h
 case h_2=>cases h
 rename_i name a b c
 split at h
 case h_2=>cases h
 rename_i s f p hs hf hp
 split at h
 case isFalse=>cases h
 rename_i hk
 injection h with h; subst h
 obtain rfl:=unS_inv hs
 obtain rfl:=unG_inv _ _ hf
 obtain rfl:=unK_inv hp
 simp only [ok3z,Bool.and_eq_true,decide_eq_true_eq] at hk
 obtain ⟨⟨⟨⟨h1,h2⟩,h3⟩,h4⟩,h5⟩:=hk
 exact ⟨_,pz3 m name s f p h1 h2 h3 (fcsOk_one h4) (fcsOk_one h5)⟩
theorem s3z_true (name:List UInt8) (s:SdI) (f:FcI) (p:PkI) (h:sd3 s = true) (hf:fcsOk [f] = true) (hp:fcsOk [p.f] = true):s3z [.str name,.agg (sdCl s),.agg (fcC f),.agg (pkCl p)] = some (.bool true,[]):=by
 have h1:unS (.agg (sdCl s)) = some s:=unS_ok s
 have h2:unG (.agg (fcC f)) = some f:=unG_ok f
 have h3:unK (.agg (pkCl p)) = some p:=unK_ok p
 simp only [s3z]
 rw [h1,h2,h3]
 simp only
 rw [if_pos (by unfold ok3z; unfold sd3 at h; rw [h,hf,hp]; rfl)]
end Go.Abs
namespace Go.Abs
open Go.ChangeShapes Go.WideShapes Go.ChangeAt Go.RowKit Go.Deep Go.ChangeMaps
open Go.Proofs Go.Proofs.YtpglogahncpnoaaGreat
section
variable {H : Type} {enc : TypeId × Value → H} {P : Program} {W : World}
def ElemR (P:Program) (W:World) (enc:TypeId × Value→H) (e:TypeId) {α:Type} (g:α→AV) (Q:α→DataW H→Prop):Prop:=
 ∀ n cs x,DataW.trod enc P W 0 (fun _=>true) true n e cs = some x→∃ a:α,Q a x.1∧∀ (j:Nat) (c:AV) (u:Value),(g a).cells[j]? = some c→cs[j]? = some u→Rep (oldE W) W c u∧u.oneCell' = true
theorem open_slR {t e:TypeId} {sz:Nat} {α:Type} [Inhabited α] {g:α→AV} {Q:α→DataW H→Prop} (ht:P.underlying t = some (.slice e)) (hc:P.cellsOf e = sz) (hsz:0 < sz) (hg:∀ a,(g a).cells.length = sz∧(g a).closed1 = true) (hel:ElemR P W enc e g Q)
  {v:Value} {d:DataW H} {ps:List MemPlace} (hv:∃ A len cap,v = .slice A len cap) (h:DataW.Trod enc P W 0 (fun _=>true) true t v d ps) :
  ∃ l:List α,Rep (oldE W) W (.sl sz (l.map g) .no) v∧(l = []∨∃ elems spare,d = .slice elems spare∧elems.length = l.length∧∀ (i:Nat) a x,l[i]? = some a→elems[i]? = some x→Q a x):=by
 obtain ⟨a,len,cap,rfl⟩:=hv
 obtain ⟨fuel,h⟩:=h
 rcases open_slice ht h with ⟨hcs,_⟩ | ⟨a',len',cap',m,n,D,Pl,hcs,hb,hl,hmx,hm,hx,hels⟩
 ·simp [Value.cells] at hcs
  obtain ⟨rfl,rfl,rfl⟩:=hcs
  exact ⟨[],.sl sz [] .no none 0 (fun _ _=>.bool false) (by simp) (by simp [maxLen]) (.inl rfl) (by simp) (by simp) trivial (by simp) (fun _ _=>rfl),.inl rfl⟩
 ·simp [Value.cells] at hcs
  obtain ⟨rfl,rfl,rfl⟩:=hcs
  have hm':m = cap:=by simpa using hm
  have hch:∀ i,i < len→∃ x:α × List Value,x.2.length = sz∧(∀ j,j < sz→W.cell? (a'.add (i * sz + j)) = x.2[j]?)∧Q x.1 (D i)∧∀ (j:Nat) (c:AV) (u:Value),(g x.1).cells[j]? = some c→x.2[j]? = some u→Rep (oldE W) W c u∧u.oneCell' = true:=fun i hi=>by
   obtain ⟨cs,hcs,ht'⟩:=hels i (by omega)
   rw [hc] at hcs
   obtain ⟨_,hlen,hat⟩:=World.cells?_some hcs
   obtain ⟨x,hq,hx⟩:=hel n cs _ ht'
   refine ⟨(x,cs),hlen,fun j hj=>?_,hq,hx⟩
   have:=hat j hj
   rw [Go.Deep.add_add] at this
   exact this
  obtain ⟨f,hf⟩:=choose_lt hch
  refine ⟨(List.range len).map fun i=>(f i).1,?_,.inr ?_⟩
  ·have hlen:((List.range len).map fun i=>(f i).1).length = len:=by simp
   have hln:(((List.range len).map fun i=>(f i).1).map g).length = len:=by simp
   have hget:∀ (i:Nat) (e':AV),(((List.range len).map fun i=>(f i).1).map g)[i]? = some e'→i < len∧e' = g (f i).1:=fun i e' h=>by
    have hi:i < len:=by
     have:=(List.getElem?_eq_some_iff.1 h).1
     simpa using this
    refine ⟨hi,?_⟩
    simp [List.getElem?_range hi] at h
    exact h.symm
   let u:Nat→Nat→Value:=fun i j=>if i < len∧j < sz then ((f i).2[j]?).getD (.bool false) else .bool false
   have hu:∀ i j,i < len→j < sz→(f i).2[j]? = some (u i j):=fun i j hi hj=>by
    have h2:j < (f i).2.length:=by rw [(hf i hi).1]; exact hj
    simp only [u,hi,hj,and_self,if_true,List.getElem?_eq_getElem h2,Option.getD_some]
   have key:=Rep.sl (E:=oldE W) (w:=W) sz (((List.range len).map fun i=>(f i).1).map g) .no (some a') cap u (by rw [hln]; exact hl) hmx ?_ ?_ ?_ trivial ?_ ?_
   ·rw [hln] at key; exact key
   ·rcases Nat.eq_zero_or_pos len with h0 | h0
    ·left; subst h0; rfl
    ·right
     have h1:=(hf 0 h0).2.1 0 hsz
     rw [hu 0 0 h0 hsz] at h1
     have hadd:a'.add (0 * sz + 0) = a':=by unfold Addr.add; simp
     rw [hadd] at h1
     have hp:=addr_plain h1
     refine ⟨a'.block,a'.off,by rw [← hp],fun i e' j c hi hj=>?_⟩
     obtain ⟨hlt,rfl⟩:=hget i e' hi
     have hjs:j < sz:=by
      have:=(List.getElem?_eq_some_iff.1 hj).1
      rw [(hg _).1] at this; exact this
     have h2:=(hf i hlt).2.1 j hjs
     rw [hu i j hlt hjs,hp,addp] at h2
     have e:a'.off + i * sz + j = a'.off + (i * sz + j):=by omega
     refine ⟨cell_lt h1,by rw [e]; exact h2⟩
   ·intro e' he
    obtain ⟨x,hx,rfl⟩:=List.mem_map.1 he
    exact (hg x).1
   ·intro e' he
    obtain ⟨x,hx,rfl⟩:=List.mem_map.1 he
    exact (hg x).2
   ·intro i e' j c hi hj
    obtain ⟨hlt,rfl⟩:=hget i e' hi
    have hjs:j < sz:=by
     have:=(List.getElem?_eq_some_iff.1 hj).1
     rw [(hg _).1] at this; exact this
    exact ((hf i hlt).2.2.2 j c (u i j) hj (hu i j hlt hjs)).1
   ·intro i j
    by_cases hij:i < len∧j < sz
    ·have hjs:j < (g (f i).1).cells.length:=by rw [(hg _).1]; exact hij.2
     exact ((hf i hij.1).2.2.2 j _ (u i j) (List.getElem?_eq_getElem hjs) (hu i j hij.1 hij.2)).2
    ·simp only [u,if_neg hij]; rfl
  ·have hx1:=congrArg Prod.fst hx
   simp only at hx1
   refine ⟨_,_,hx1,by simp,fun i a x hi hxi=>?_⟩
   have hlt:i < len:=by
    have:=(List.getElem?_eq_some_iff.1 hi).1
    simpa using this
   simp [List.getElem?_range hlt] at hi hxi
   subst hi; subst hxi
   exact (hf i hlt).2.2.1
/-! cells that read so -/
def CellsAre (W:World) (l:List AV) (cs:List Value):Prop:=
 l.length = cs.length∧∀ (j:Nat) (c:AV) (u:Value),l[j]? = some c→cs[j]? = some u→Rep (oldE W) W c u∧u.oneCell' = true
theorem CellsAre.one {c:AV} {u:Value} (h:Rep (oldE W) W c u) (h1:u.oneCell' = true):CellsAre W [c] [u]:=⟨rfl,fun j c' u' hc hu=>by
 match j,hc,hu with
 | 0,hc,hu=>simp at hc hu; subst hc; subst hu; exact ⟨h,h1⟩⟩
theorem CellsAre.append {l r:List AV} {cs ds:List Value} (h:CellsAre W l cs) (k:CellsAre W r ds):CellsAre W (l ++ r) (cs ++ ds):=by
 refine ⟨by simp [h.1,k.1],fun j c u hc hu=>?_⟩
 rcases Nat.lt_or_ge j l.length with hj | hj
 ·rw [List.getElem?_append_left hj] at hc
  rw [List.getElem?_append_left (by rw [← h.1]; exact hj)] at hu
  exact h.2 j c u hc hu
 ·rw [List.getElem?_append_right hj] at hc
  rw [List.getElem?_append_right (by rw [← h.1]; exact hj),← h.1] at hu
  exact k.2 _ c u hc hu
theorem CellsAre.next {l r:List AV} {cs:List Value} {o s p:Nat} (h:CellsAre W l ((cs.drop o).take s)) (hp:p = o + s) (k:CellsAre W r (cs.drop p)):CellsAre W (l ++ r) (cs.drop o):=by
 subst hp
 have:=h.append k
 rwa [← List.drop_drop,List.take_append_drop] at this
theorem CellsAre.last {l:List AV} {cs:List Value} {o s:Nat} (h:CellsAre W l ((cs.drop o).take s)) (hs:cs.length = o + s):CellsAre W l (cs.drop o):=by
 rwa [List.take_of_length_le (by rw [List.length_drop]; omega)] at h
def wmax {H:Type} (P:Program) (t:TypeId) (d:DataW H):Nat:=(DataW.weights P t d).foldr max 0
theorem le_foldr:∀ {l:List Nat} {k:Nat},k ∈ l→k≤l.foldr max 0
 | a :: l,k,h=>by
  simp only [List.foldr_cons]
  rcases List.mem_cons.1 h with rfl | h
  ·omega
  ·have:=le_foldr h; omega
theorem foldr_le:∀ {l:List Nat} {m:Nat},(∀ k ∈ l,k≤m)→l.foldr max 0≤m
 | [],m,_=>Nat.zero_le _
 | a :: l,m,h=>by
  simp only [List.foldr_cons]
  have:=h a List.mem_cons_self
  have:=foldr_le fun k hk=>h k (List.mem_cons_of_mem _ hk)
  omega
theorem wmax_mono {t u:TypeId} {d e:DataW H} (h:∀ k ∈ DataW.weights P t d,k ∈ DataW.weights P u e):wmax P t d≤wmax P u e:=foldr_le fun k hk=>le_foldr (h k hk)
theorem wmax_arg {ts:List TypeId} {ds:List (DataW H)} (h:(DataW.weightsEach P ts ds).all (·≤reachBytes) = true) {j:Nat} {t:TypeId} {d:DataW H} (ht:ts[j]? = some t) (hd:ds[j]? = some d):wmax P t d≤140737488351232:=
 foldr_le fun k hk=>by
  have:=List.all_eq_true.1 h _ (DataW.weights_mem_each ht hd k hk)
  exact of_decide_eq_true this
theorem wmax_field {T t:TypeId} {fs:Array Field} (hu:P.underlying T = some (.struct fs)) {xs:List (DataW H × List MemPlace)} {i:Nat} {f:Field} (hi:fs[i]? = some f) (ht:f.type = t) {y:DataW H × List MemPlace} (hy:xs[i]? = some y):wmax P t y.1≤wmax P T (DataW.agg (xs.map (·.1))):=
 wmax_mono fun k hk=>by
  simp only [DataW.weights,hu]
  refine DataW.weights_mem_each (j:=i) (t:=t) (d:=y.1) ?_ ?_ k hk
  ·rw [List.getElem?_map,Array.getElem?_toList,hi]; simp [ht]
  ·rw [List.getElem?_map,hy]; rfl
theorem weightsAll_mem {e:TypeId}:∀ {l:List (DataW H)} {d:DataW H},d ∈ l→∀ k ∈ DataW.weights P e d,k ∈ DataW.weightsAll P e l
 | x :: l,d,h,k,hk=>by
  simp only [DataW.weightsAll,List.mem_append]
  rcases List.mem_cons.1 h with rfl | h
  ·exact .inl hk
  ·exact .inr (weightsAll_mem h k hk)
def ReadsAs (P:Program) (W:World) (enc:TypeId × Value→H) (t:TypeId) {α:Type} (g:α→List AV) (Q:α→Nat→Prop):Prop:=
 ∀ n cs x,DataW.trod enc P W 0 (fun _=>true) true n t cs = some x→∃ a:α,Q a (wmax P t x.1)∧CellsAre W (g a) cs
theorem reads_str {t:TypeId} (ht:P.underlying t = some .string):ReadsAs P W enc t (fun s:List UInt8=>[.str s]) (fun s n=>s.length≤n):=by
 intro n cs x h
 obtain ⟨s,rfl,rfl,_⟩:=DataW.trod_string ht h
 refine ⟨s.data.toList,?_,.one (mk_str s) rfl⟩
 exact le_foldr (by simp [DataW.weights])
theorem reads_int {t:TypeId} (ht:P.underlying t = some (.int .i64)):ReadsAs P W enc t (fun n:Int=>[.int .i64 n]) (fun n _=>-9223372036854775808≤n∧n≤9223372036854775807):=by
 intro n cs x h
 obtain ⟨k,rfl,_,hw⟩:=DataW.trod_int ht h
 have:=int_rng hw
 exact ⟨k,⟨this.1,by omega⟩,.one (.int _ _) rfl⟩
theorem reads_bool {t:TypeId} (ht:P.underlying t = some .bool):ReadsAs P W enc t (fun b:Bool=>[.bool b]) (fun _ _=>True):=by
 intro n cs x h
 obtain ⟨b,rfl,_⟩:=DataW.trod_bool ht h
 exact ⟨b,trivial,.one (.bool _) rfl⟩
theorem reads_slice {t e:TypeId} {sz:Nat} {α:Type} [Inhabited α] {g:α→AV} {Q:α→Nat→Prop} (ht:P.underlying t = some (.slice e)) (hc:P.cellsOf e = sz) (hsz:0 < sz) (hby:1≤P.bytesOf e) (hg:∀ a,(g a).cells.length = sz∧(g a).closed1 = true) (hel:ReadsAs P W enc e (fun a=>(g a).cells) Q)
  (hQ:∀ a n m,Q a n→n≤m→Q a m):ReadsAs P W enc t (fun l:List α=>[.sl sz (l.map g) .no]) (fun l n=>l.length≤n∧∀ a ∈ l,Q a n):=by
 intro n cs x h
 have hs:∃ A len cap,cs = [.slice A len cap]:=by
  rcases open_slice ht h with ⟨hcs,_⟩ | ⟨a',len',cap',m,n,D,Pl,hcs,_⟩
  ·exact ⟨_,_,_,hcs⟩
  ·exact ⟨_,_,_,hcs⟩
 obtain ⟨A,len,cap,rfl⟩:=hs
 have hel':ElemR P W enc e g (fun a d=>Q a (wmax P e d)):=fun n cs x h=>by
  obtain ⟨a,h1,h2⟩:=hel n cs x h
  exact ⟨a,h1,h2.2⟩
 obtain ⟨l,hl,hb⟩:=open_slR ht hc hsz hg hel' ⟨A,len,cap,rfl⟩ (d:=x.1) (ps:=x.2) ⟨n,by simpa [Value.cells] using h⟩
 refine ⟨l,?_,.one hl rfl⟩
 rcases hb with rfl | ⟨elems,spare,he,hlen,hq⟩
 ·exact ⟨Nat.zero_le _,fun a ha=>by cases ha⟩
 ·rw [he]
  refine ⟨?_,fun a ha=>?_⟩
  ·have h1:(elems.length + spare.length) * P.bytesOf e≤wmax P t (DataW.slice elems spare):=le_foldr (by simp [DataW.weights,ht])
   have h2:=Nat.le_mul_of_pos_right (elems.length + spare.length) hby
   omega
  obtain ⟨i,hi⟩:=List.mem_iff_getElem?.1 ha
  have hlt:i < elems.length:=by rw [hlen]; exact (List.getElem?_eq_some_iff.1 hi).1
  have hx:=List.getElem?_eq_getElem hlt
  refine hQ a _ _ (hq i a _ hi hx) ?_
  refine wmax_mono fun k hk=>?_
  simp only [DataW.weights,ht,List.mem_cons,List.mem_append]
  exact .inr (.inl (weightsAll_mem (List.mem_of_getElem? hx) k hk))
/-! cells of any type -/
end
open Go.Proofs Go.Proofs.YtpglogahncpnoaaGreat
section
variable {H : Type} {enc : TypeId × Value → H} {P : Program} {W : World}
theorem fieldR {t:TypeId} {α:Type} {g:α→List AV} {Q:α→Nat→Prop} (hr:ReadsAs P W enc t g Q) (hQ:∀ a n m,Q a n→n≤m→Q a m) {T:TypeId} {fs:Array Field} (hu:P.underlying T = some (.struct fs)) {xs:List (DataW H × List MemPlace)} {n:Nat} {cs:List Value} {x:DataW H × List MemPlace}
  (hx:x = (.agg (xs.map (·.1)),xs.flatMap (·.2))) (hxl:xs.length = fs.size)
  (hf:∀ (i:Nat) (f:Field),fs[i]? = some f→DataW.trod enc P W 0 (fun _=>true) true n f.type ((cs.drop f.offset).take (P.cellsOf f.type)) = xs[i]?)
  (i:Nat) {f:Field} (hi:fs[i]? = some f) (ht:f.type = t) {o s:Nat} (ho:f.offset = o) (hs:P.cellsOf t = s):∃ a,Q a (wmax P T x.1)∧CellsAre W (g a) ((cs.drop o).take s):=by
 have h:=hf i f hi
 rw [ht,ho,hs] at h
 have hil:i < xs.length:=by rw [hxl]; exact (Array.getElem?_eq_some_iff.1 hi).1
 have hg:=List.getElem?_eq_getElem hil
 rw [hg] at h
 obtain ⟨a,h1,h2⟩:=hr n _ _ h
 refine ⟨a,hQ a _ _ h1 ?_,h2⟩
 rw [hx]
 exact wmax_field hu hi ht hg
theorem ReadsAs.map {t:TypeId} {α β:Type} {g:α→List AV} {g':β→List AV} {Q:α→Nat→Prop} {Q':β→Nat→Prop} (h:ReadsAs P W enc t g Q) (f:α→β) (hg:∀ a,g a = g' (f a)) (hQ:∀ a n,Q a n→Q' (f a) n):ReadsAs P W enc t g' Q':=fun n cs x hx=>by
 obtain ⟨a,h1,h2⟩:=h n cs x hx
 exact ⟨f a,hQ a _ h1,by rw [← hg]; exact h2⟩
end
section
variable {H : Type} {enc : TypeId × Value → H} {W : World}
theorem cz3:PI.cellsOf 3 = 1:=by kernel_rfl
theorem cz4:PI.cellsOf 4 = 1:=by kernel_rfl
theorem cz9:PI.cellsOf 9 = 1:=by kernel_rfl
theorem cz30:PI.cellsOf 26 = 2:=by kernel_rfl
theorem cz31:PI.cellsOf 27 = 1:=by kernel_rfl
theorem cz33:PI.cellsOf 29 = 8:=by kernel_rfl
theorem cz35:PI.cellsOf 31 = 11:=by kernel_rfl
theorem cz52:PI.cellsOf 78 = 3:=by kernel_rfl
theorem st30:∃ f0 f1:Field,PI.underlying 26 = some (.struct #[f0,f1])∧(f0.type = 9∧f0.offset = 0)∧(f1.type = 3∧f1.offset = 1):=⟨_,_,Tryz.underlying26,⟨rfl,rfl⟩,⟨rfl,rfl⟩⟩
theorem st52:∃ f0 f1 f2:Field,PI.underlying 78 = some (.struct #[f0,f1,f2])∧(f0.type = 3∧f0.offset = 0)∧(f1.type = 3∧f1.offset = 1)∧(f2.type = 9∧f2.offset = 2):=⟨_,_,_,Tryz.underlying78,⟨rfl,rfl⟩,⟨rfl,rfl⟩,⟨rfl,rfl⟩⟩
theorem st33:∃ f0 f1 f2 f3 f4 f5 f6:Field,PI.underlying 29 = some (.struct #[f0,f1,f2,f3,f4,f5,f6])∧(f0.type = 26∧f0.offset = 0)∧(f1.type = 3∧f1.offset = 2)∧(f2.type = 3∧f2.offset = 3)∧(f3.type = 9∧f3.offset = 4)∧(f4.type = 9∧f4.offset = 5)∧(f5.type = 3∧f5.offset = 6)∧(f6.type = 27∧f6.offset = 7):=
 ⟨_,_,_,_,_,_,_,Tryz.underlying29,⟨rfl,rfl⟩,⟨rfl,rfl⟩,⟨rfl,rfl⟩,⟨rfl,rfl⟩,⟨rfl,rfl⟩,⟨rfl,rfl⟩,⟨rfl,rfl⟩⟩
theorem st35:∃ f0 f1 f2 f3:Field,PI.underlying 31 = some (.struct #[f0,f1,f2,f3])∧(f0.type = 9∧f0.offset = 0)∧(f1.type = 4∧f1.offset = 1)∧(f2.type = 3∧f2.offset = 2)∧(f3.type = 29∧f3.offset = 3):=⟨_,_,_,_,Tryz.underlying31,⟨rfl,rfl⟩,⟨rfl,rfl⟩,⟨rfl,rfl⟩,⟨rfl,rfl⟩⟩
def rngI (n:Int):Prop:=-9223372036854775808≤n∧n≤9223372036854775807
theorem mono_le {k n m:Nat} (h:k≤n) (hm:n≤m):k≤m:=Nat.le_trans h hm
theorem rStr:ReadsAs PI W enc 9 (fun s:List UInt8=>[.str s]) (fun s n=>s.length≤n):=reads_str Tryz.underlying9
theorem rInt:ReadsAs PI W enc 3 (fun n:Int=>[.int .i64 n]) (fun n _=>rngI n):=reads_int Tryz.underlying3
theorem rBool:ReadsAs PI W enc 4 (fun b:Bool=>[.bool b]) (fun _ _=>True):=reads_bool Tryz.underlying4
theorem rId:ReadsAs PI W enc 26 (fun p:List UInt8 × Int=>[.str p.1,.int .i64 p.2]) (fun p n=>p.1.length≤n∧rngI p.2):=by
 intro n cs x h
 obtain ⟨f0,f1,hu,⟨t0,o0⟩,⟨t1,o1⟩⟩:=st30
 obtain ⟨xs,m,_,hx,hlen,hxl,hf⟩:=DataW.trod_struct hu h
 obtain ⟨a0,q0,c0⟩:=fieldR rStr (fun _ _ _=>mono_le) hu hx hxl hf 0 rfl t0 o0 cz9
 obtain ⟨a1,q1,c1⟩:=fieldR rInt (fun _ _ _ h _=>h) hu hx hxl hf 1 rfl t1 o1 cz3
 exact ⟨(a0,a1),⟨q0,q1⟩,c0.next rfl (c1.last (by rw [hlen]; exact cz30))⟩
theorem rVal:ReadsAs PI W enc 78 (fun v:VaI=>(vaA v).cells) (fun _ _=>True):=by
 intro n cs x h
 obtain ⟨f0,f1,f2,hu,⟨t0,o0⟩,⟨t1,o1⟩,⟨t2,o2⟩⟩:=st52
 obtain ⟨xs,m,_,hx,hlen,hxl,hf⟩:=DataW.trod_struct hu h
 obtain ⟨a0,q0,c0⟩:=fieldR rInt (fun _ _ _ h _=>h) hu hx hxl hf 0 rfl t0 o0 cz3
 obtain ⟨a1,q1,c1⟩:=fieldR rInt (fun _ _ _ h _=>h) hu hx hxl hf 1 rfl t1 o1 cz3
 obtain ⟨a2,q2,c2⟩:=fieldR rStr (fun _ _ _=>mono_le) hu hx hxl hf 2 rfl t2 o2 cz9
 exact ⟨⟨a0,a1,a2⟩,trivial,c0.next rfl (c1.next rfl (c2.last (by rw [hlen]; exact cz52)))⟩
theorem rVals:ReadsAs PI W enc 27 (fun l:List VaI=>[.sl 3 (vasL l) .no]) (fun l n=>l.length≤n):=fun n cs x h=>by
 obtain ⟨l,h1,h2⟩:=reads_slice (g:=vaA) Tryz.underlying27 cz52 (by omega) (by decide +kernel) (fun _=>⟨rfl,rfl⟩) rVal (fun _ _ _ _ _=>trivial) n cs x h
 exact ⟨l,h1.1,h2⟩
def fcQ (f:FcI) (n:Nat):Prop:=(f.src.length≤n∧rngI f.seq)∧f.table.length≤n∧f.key.length≤n∧f.fs.length≤n∧rngI f.kind
theorem fcQ_mono (f:FcI) (n m:Nat) (h:fcQ f n) (hm:n≤m):fcQ f m:=⟨⟨mono_le h.1.1 hm,h.1.2⟩,mono_le h.2.1 hm,mono_le h.2.2.1 hm,mono_le h.2.2.2.1 hm,h.2.2.2.2⟩
theorem rFact:ReadsAs PI W enc 29 fcC fcQ:=by
 intro n cs x h
 obtain ⟨f0,f1,f2,f3,f4,f5,f6,hu,⟨t0,o0⟩,⟨t1,o1⟩,⟨t2,o2⟩,⟨t3,o3⟩,⟨t4,o4⟩,⟨t5,o5⟩,⟨t6,o6⟩⟩:=st33
 obtain ⟨xs,m,_,hx,hlen,hxl,hf⟩:=DataW.trod_struct hu h
 obtain ⟨a0,q0,c0⟩:=fieldR rId (fun _ _ _ h hm=>⟨mono_le h.1 hm,h.2⟩) hu hx hxl hf 0 rfl t0 o0 cz30
 obtain ⟨a1,q1,c1⟩:=fieldR rInt (fun _ _ _ h _=>h) hu hx hxl hf 1 rfl t1 o1 cz3
 obtain ⟨a2,q2,c2⟩:=fieldR rInt (fun _ _ _ h _=>h) hu hx hxl hf 2 rfl t2 o2 cz3
 obtain ⟨a3,q3,c3⟩:=fieldR rStr (fun _ _ _=>mono_le) hu hx hxl hf 3 rfl t3 o3 cz9
 obtain ⟨a4,q4,c4⟩:=fieldR rStr (fun _ _ _=>mono_le) hu hx hxl hf 4 rfl t4 o4 cz9
 obtain ⟨a5,q5,c5⟩:=fieldR rInt (fun _ _ _ h _=>h) hu hx hxl hf 5 rfl t5 o5 cz3
 obtain ⟨a6,q6,c6⟩:=fieldR rVals (fun _ _ _=>mono_le) hu hx hxl hf 6 rfl t6 o6 cz31
 exact ⟨⟨a0.1,a0.2,a1,a2,a3,a4,a5,a6⟩,⟨q0,q3,q4,q6,q1⟩,c0.next rfl (c1.next rfl (c2.next rfl (c3.next rfl (c4.next rfl (c5.next rfl (c6.last (by rw [hlen]; exact cz33)))))))⟩
theorem rPacket:ReadsAs PI W enc 31 (fun p:PkI=>(pkA p).cells) (fun p n=>fcQ p.f n∧p.src.length≤n):=by
 intro n cs x h
 obtain ⟨f0,f1,f2,f3,hu,⟨t0,o0⟩,⟨t1,o1⟩,⟨t2,o2⟩,⟨t3,o3⟩⟩:=st35
 obtain ⟨xs,m,_,hx,hlen,hxl,hf⟩:=DataW.trod_struct hu h
 obtain ⟨a0,q0,c0⟩:=fieldR rStr (fun _ _ _=>mono_le) hu hx hxl hf 0 rfl t0 o0 cz9
 obtain ⟨a1,q1,c1⟩:=fieldR rBool (fun _ _ _ h _=>h) hu hx hxl hf 1 rfl t1 o1 cz4
 obtain ⟨a2,q2,c2⟩:=fieldR rInt (fun _ _ _ h _=>h) hu hx hxl hf 2 rfl t2 o2 cz3
 obtain ⟨a3,q3,c3⟩:=fieldR rFact fcQ_mono hu hx hxl hf 3 rfl t3 o3 cz33
 exact ⟨⟨a0,a1,a2,a3⟩,⟨q3,q0⟩,c0.next rfl (c1.next rfl (c2.next rfl (c3.last (by rw [hlen]; exact cz35))))⟩
theorem cz22:PI.cellsOf 22 = 1:=by kernel_rfl
theorem st24:∃ f0 f1 f2:Field,PI.underlying 24 = some (.struct #[f0,f1,f2])∧(f0.type = 9∧f0.offset = 0)∧(f1.type = 3∧f1.offset = 1)∧(f2.type = 22∧f2.offset = 2):=⟨_,_,_,Tryz.underlying24,⟨rfl,rfl⟩,⟨rfl,rfl⟩,⟨rfl,rfl⟩⟩
theorem rFacts:ReadsAs PI W enc 22 (fun l:List FcI=>[.sl 8 (fcsL l) .no]) (fun l n=>l.length≤n∧∀ f ∈ l,fcQ f n):=
 reads_slice (g:=fcA) Tryz.underlying22 cz33 (by omega) (by decide +kernel) (fun _=>⟨rfl,rfl⟩) rFact fcQ_mono
theorem rSender:ReadsAs PI W enc 24 (fun s:SdI=>sdC s.nm s.nx 8 (fcsL s.l)) (fun s n=>s.nm.length≤n∧s.l.length≤n∧∀ f ∈ s.l,fcQ f n):=by
 intro n cs x h
 obtain ⟨f0,f1,f2,hu,⟨t0,o0⟩,⟨t1,o1⟩,⟨t2,o2⟩⟩:=st24
 obtain ⟨xs,m,_,hx,hlen,hxl,hf⟩:=DataW.trod_struct hu h
 obtain ⟨a0,q0,c0⟩:=fieldR rStr (fun _ _ _=>mono_le) hu hx hxl hf 0 rfl t0 o0 cz9
 obtain ⟨a1,q1,c1⟩:=fieldR rInt (fun _ _ _ h _=>h) hu hx hxl hf 1 rfl t1 o1 cz3
 obtain ⟨a2,q2,c2⟩:=fieldR rFacts (fun _ _ _ h hm=>⟨mono_le h.1 hm,fun b hb=>fcQ_mono _ _ _ (h.2 b hb) hm⟩) hu hx hxl hf 2 rfl t2 o2 cz22
 exact ⟨⟨a0,a1,a2⟩,⟨q0,q2⟩,c0.next rfl (c1.next rfl (c2.last (by rw [hlen]; kernel_rfl)))⟩
/-! arguments -/
theorem open_one {t:TypeId} {α:Type} {g:α→AV} {Q:α→Nat→Prop} (hr:ReadsAs PI W enc t (fun a=>[g a]) Q) {v:Value} {d:DataW H} {ps:List MemPlace} (h1:∃ u,v.cells = #[u]∧v = u) (h:DataW.Trod enc PI W 0 (fun _=>true) true t v d ps):∃ a,Rep (oldE W) W (g a) v∧Q a (wmax PI t d):=by
 obtain ⟨u,hu,rfl⟩:=h1
 obtain ⟨fuel,h⟩:=h
 rw [hu] at h
 obtain ⟨a,q,c⟩:=hr fuel _ _ h
 exact ⟨a,(c.2 0 _ _ rfl rfl).1,q⟩
theorem open_agg {t:TypeId} {α:Type} {g:α→List AV} {Q:α→Nat→Prop} (hr:ReadsAs PI W enc t g Q) {v:Value} {d:DataW H} {ps:List MemPlace} (h1:∃ cs,v = .agg cs) (h:DataW.Trod enc PI W 0 (fun _=>true) true t v d ps):∃ a,Rep (oldE W) W (.agg (g a)) v∧Q a (wmax PI t d):=by
 obtain ⟨cs,rfl⟩:=h1
 obtain ⟨fuel,h⟩:=h
 obtain ⟨a,q,c⟩:=hr fuel _ _ h
 refine ⟨a,.agg _ cs ?_ (fun i v hv=>?_) fun i c' v hc hv=>?_,q⟩
 ·have:(g a).length = cs.toList.length:=c.1
  rw [this,Array.length_toList]
 ·have hv':cs.toList[i]? = some v:=by rw [Array.getElem?_toList]; exact hv
  have hil:i < (g a).length:=by rw [c.1]; exact (List.getElem?_eq_some_iff.1 hv').1
  exact (c.2 i _ v (List.getElem?_eq_getElem hil) hv').2
 ·exact (c.2 i c' v hc (by show cs.toList[i]? = some v; rw [Array.getElem?_toList]; exact hv)).1
end
open Go.Proofs Go.Proofs.YtpglogahncpnoaaGreat
section
variable {W : World}
theorem nGlobI:0 < PI.globals.size:=by
 have:decide (0 < PI.globals.size) = true:=by kernel_rfl
 exact of_decide_eq_true this
theorem globI (hsh:W.ShapedOpen PI) {m:Int} (hm:W.cell? ⟨0,0,none⟩ = some (.int .i64 m)):GlobOk (GI m) (oldE W) W:=by
 refine globA (fun g e hg=>?_) fun g e hg=>?_
 ·match g,hg with
  | 0,hg =>
   simp only [GI,Option.some.injEq] at hg
   subst hg
   refine ⟨rfl,fun j c hj=>?_⟩
   match j,hj with
   | 0,hj=>simp [AV.cells] at hj; subst hj; exact ⟨_,hm,.int _ _,rfl⟩
   | j + 1,hj=>simp [AV.cells] at hj
  | g + 1,hg=>cases hg
 ·match g,hg with
  | 0,hg =>
   simp only [GI,Option.some.injEq] at hg
   subst hg
   exact glob_size hsh (n:=1) nGlobI (by kernel_rfl)
  | g + 1,hg=>cases hg
end
/-! what the bound on all that is read gives -/
theorem fcs_of {l:List FcI} {n:Nat} (h:∀ f ∈ l,fcQ f n) (hn:n≤140737488351232):fcsOk l = true:=by
 simp only [fcsOk,List.all_eq_true,Bool.and_eq_true,decide_eq_true_eq]
 intro f hf
 obtain ⟨⟨h1,_⟩,h2,h3,h4,_⟩:=h f hf
 omega
theorem fc1_of {f:FcI} {n:Nat} (h:fcQ f n) (hn:n≤140737488351232):fcsOk [f] = true:=fcs_of (fun g hg=>by obtain rfl:=List.mem_singleton.1 hg; exact h) hn
theorem sd3_of {s:SdI} {n:Nat} (h:s.nm.length≤n∧s.l.length≤n∧∀ f ∈ s.l,fcQ f n) (hn:n≤140737488351232):sd3 s = true:=by
 obtain ⟨h1,h2,h3⟩:=h
 unfold sd3
 rw [fcs_of h3 (by omega),decide_eq_true (show s.nm.length≤140737488351232 by omega),decide_eq_true (show s.l.length≤140737488351232 by omega)]
 rfl
theorem one_str {P:Program} {W:World} {t:TypeId} {v:Value} {b:Nat} (ht:P.underlying t = some .string) (h:Value.okWide P W .any b t v):∃ u,v.cells = #[u]∧v = u:=by
 obtain ⟨n,rfl⟩:=okWide_string ht h
 exact ⟨_,rfl,rfl⟩
theorem is_agg {P:Program} {W:World} {t:TypeId} {fs:Array Field} {v:Value} {b:Nat} (ht:P.underlying t = some (.struct fs)) (h:Value.okWide P W .any b t v):∃ cs,v = .agg cs:=by
 obtain ⟨cs,h,_⟩:=okWide_struct ht h
 exact ⟨cs,h⟩
theorem witness_row_shaped {H:Type} {enc:TypeId × Value→H} {C:Checked} {os:Os} {f:FuncId} {fn:Func} {s:OpenSpec} {conds:List PathCond} {apart:Bool} {laid:List (String × DataW Unit)} (w0:World) (args:Array Value) (hos:w0.os = os)
  (hsh:(w0.forCall (fun _ _=>0) ⟨#[],args,[]⟩).Shaped C.prog)
  (hok:Input.okWideB C.prog (w0.forCall (fun _ _=>0) ⟨#[],args,[]⟩) f ⟨#[],args,[]⟩ = true)
  (hrow:s.preRow enc C.prog fn conds apart laid (w0.forCall (fun _ _=>0) ⟨#[],args,[]⟩).memory args) :
  ∃ (w:World) (tape:Tape) (i:Input),w.os = os∧(w.forCall tape i).Shaped C.prog∧i.vars = []∧Input.okWide C.prog (w.forCall tape i) .any w.heap.size f i ∧
   s.preRow enc C.prog fn conds apart laid (w.forCall tape i).memory i.args∧({}:Assume).holds C.prog (lone (Frame.enter C.prog f i.args .normal) [] (w.forCall tape i)):=
 ⟨w0,fun _ _=>0,⟨#[],args,[]⟩,hos,hsh,(Input.okWide_of_okWideB (base:=0) hok).1,(Input.okWide_of_okWideB hok).2,hrow,by
  simp only [Assume.holds]
  exact ⟨by simp,by simp,fun _=>Modest.zero,by simp,by simp⟩⟩
end Go.Abs
