/- Own texts, part 10. -/
import Derived.Test.YtpglogahncpnoaaPart9
import Derived.Test.YtpglogahncpnoaaPart8
import Derived.Test.YtpglogahncpnoaaPart3
import Derived.SizedLaws
import Derived.Test.YtpglogahncpnoaaRows

namespace Go.Abs
open Go.Proofs Go.RowKit
theorem agg33:aggA PI 33 = some true:=by kernel_rfl
theorem size33:sizeA PI 33 = some 8:=by kernel_rfl
theorem agg35:aggA PI 35 = some true:=by kernel_rfl
theorem size35:sizeA PI 35 = some 11:=by kernel_rfl
theorem take_fc {l:List PkI} {i:Nat} (h:i < l.length):takeAt PI 33 (pksL l) i 3 = some (fcA l[i].f):=by
 simp only [takeAt,List.getElem?_map,List.getElem?_eq_getElem h,Option.map_some,takeA,agg33,size33]
 rfl
theorem take_ps {l:List PkI} {i:Nat} (h:i < l.length):takeAt PI 9 (pksL l) i 0 = some (.str l[i].src):=by
 obtain ⟨s,hs⟩:=Option.isSome_iff_exists.1 size9
 simp only [takeAt,List.getElem?_map,List.getElem?_eq_getElem h,Option.map_some,takeA,agg9,hs]
 rfl
theorem take_pk {l:List PkI} {i:Nat} (h:i < l.length):takeAt PI 35 (pksL l) i 0 = some (pkA l[i]):=by
 simp only [takeAt,List.getElem?_map,List.getElem?_eq_getElem h,Option.map_some,takeA,agg35,size35]
 rfl
theorem unV_ok (v:VaI):unV (vaA v) = some v:=rfl
theorem c8 {r:List BxI} (h1:r.length≤140737488351232) (h2:∀ b ∈ r,b.src.length≤140737488351232∧b.ahead.length≤140737488351232):tbl t3 8 [.agg [.sl 3 (bxsL r) .no]] = some (.bool (rcvOk r),[]):=by
 rw [tbl_miss (by decide),tbl_hit]
 simp only [s8,if_true,unBs_ok]
 rw [if_pos ⟨h1,by rw [List.all_eq_true]; intro b hb; simp [h2 b hb]⟩]
theorem c9 {f:FcI} (h:f.src.length≤140737488351232∧f.table.length≤140737488351232∧f.key.length≤140737488351232∧f.fs.length≤140737488351232):tbl t3 9 [fcA f] = some (.bool (smallB f),[]):=by
 rw [tbl_miss (by decide),tbl_miss (by decide),tbl_hit]
 unfold fcA s9
 simp only [if_true]
 rw [show unL unV (vasL f.fs) = some f.fs from unL_map unV_ok f.fs]
 simp only
 rw [if_pos h]
theorem c10 {q:List BxI} {p:PkI} (hq:rcvOk q = true) (hp:p.src.length≤2000000):tbl t3 10 [.agg [.sl 3 (bxsL q) .no],pkA p] = some (rcvWA (recvW (recvP q (pkQ p))),[]):=by
 rw [tbl_miss (by decide),tbl_miss (by decide),tbl_miss (by decide),tbl_hit]
 unfold pkA s10w
 simp only [rcvOf,if_true,unBs_ok]
 rw [if_pos hp,if_pos hq]; rfl
theorem c11 {q:List BxI} {p:PkI} (hq:rcvOk q = true) (hp:p.src.length≤2000000):tbl t3 11 [.agg [.sl 3 (bxsL q) .no],pkA p] = some (rcvWA (recvW (recvP q (pkQ p))),[]):=by
 rw [tbl_miss (by decide),tbl_miss (by decide),tbl_miss (by decide),tbl_miss (by decide),tbl_hit]
 unfold pkA s11w
 simp only [unBs_ok]
 rw [if_pos ⟨hp,trivial⟩,if_pos hq]; rfl
theorem c13 {a:List BxI} (h1:a.length≤140737488351232) (h2:∀ b ∈ a,b.ahead.length≤140737488351232):tbl t3 13 [.agg [.sl 3 (bxsL a) .no],.agg [.sl 3 (bxsL a) .no]] = some (.bool true,[]):=by
 rw [tbl_miss (by decide),tbl_miss (by decide),tbl_miss (by decide),tbl_miss (by decide),tbl_miss (by decide),tbl_miss (by decide),tbl_hit]
 simp only [s13,and_self,if_true,unBs_ok]
 have:(a.all fun b=>decide (b.ahead.length≤140737488351232)) = true:=by rw [List.all_eq_true]; intro b hb; simp [h2 b hb]
 rw [if_pos ⟨h1,this⟩]; simp
theorem recvW_ok {q:List BxI} {p:PkQ} (hq:rcvOk q = true):RcvP (recvW (recvP q p)).r:=by
 cases h:recvP q p with
 | err c=>exact ⟨fun b hb=>(by cases hb),List.Pairwise.nil,Nat.zero_le _⟩
 | out r f s n=>exact recv_ok (rcvOk_iff.1 hq) h
theorem p3 (m:Int) (r:List BxI) (ps:List PkI) (hr:∀ b ∈ r,b.src.length≤140737488351232∧b.ahead.length≤140737488351232) (hp:∀ p ∈ ps,p.f.src.length≤140737488351232∧p.f.table.length≤140737488351232∧p.f.key.length≤140737488351232∧p.f.fs.length≤140737488351232) :
  PureOk PI (GI m) X3 (tbl t3) (itbl []) (a3 r ps) [] 3 [.agg [.sl 3 (bxsL r) .no],.sl 11 (pksL ps) .no] (.bool true,[]):=by
 constructor
 rw [w3]
 have hlp:(pksL ps).length = ps.length:=List.length_map ..
 have hlr:(bxsL r).length = r.length:=List.length_map ..
 rw [hlp,hlr]
 refine ⟨true,⟨rfl⟩,fun _=>⟨fun _=>⟨rfl⟩,fun h40=>⟨fun _=>⟨rfl⟩,fun h16=>⟨rcvOk r,⟨c8 (by have:=of_decide_eq_false h16; omega) hr⟩,fun hok=>⟨⟨(0,r),⟨rfl⟩,⟨rfl⟩,⟨Nat.zero_le _,by have:=of_decide_eq_false h40; omega,hok⟩,trivial⟩,fun x hx=>⟨fun hlt=>?_,fun _=>⟨rfl⟩⟩⟩,fun _=>⟨rfl⟩⟩⟩⟩,fun h=>(by cases h)⟩
 obtain ⟨i,q⟩:=x
 simp only at hx hlt ⊢
 obtain ⟨hi,h40',hq⟩:=hx
 have hlt:=of_decide_eq_true hlt
 have hil:i < ps.length:=by omega
 have hb2:(0:Int)≤i∧(i:Int) < ps.length:=⟨by omega,by omega⟩
 refine ⟨hb2,_,_,_,_,_,_,_,_,by rw [Int.toNat_natCast]; exact take_fc hil,smallB ps[i].f,⟨c9 (hp _ (List.getElem_mem hil))⟩,fun hs=>⟨hb2,_,by rw [Int.toNat_natCast]; exact take_ps hil,fun _=>⟨rfl⟩,fun h200=>?_⟩,fun _=>⟨rfl⟩⟩
 have h200:=of_decide_eq_false h200
 have hsrc:ps[i].src.length≤2000000:=by omega
 obtain ⟨R,hR⟩:∃ R,recvW (recvP q (pkQ ps[i])) = R:=⟨_,rfl⟩
 have hRP:RcvP R.r:=hR ▸ recvW_ok hq
 have k10:=c10 hq hsrc
 have k11:=c11 hq hsrc
 rw [hR] at k10 k11
 have k13:=c13 (a:=R.r) (by have:=hRP.len; omega) fun b hb=>by have:=(hRP.box b hb).len; omega
 have hfin:∀ (c:Bool) (T:Prop),(T→False)→True:=fun _ _ _=>trivial
 refine ⟨hb2,_,_,_,_,_,_,_,_,_,_,_,by rw [Int.toNat_natCast]; exact take_pk hil,bxsL R.r,R.fresh,R.src,R.ack,R.next,R.code,⟨k10⟩,fun hf=>⟨hb2,_,_,_,_,_,_,_,_,_,_,_,by rw [Int.toNat_natCast]; exact take_pk hil,bxsL R.r,R.fresh,R.src,R.ack,R.next,R.code,⟨k11⟩,fun _=>⟨fun h=>?_,fun _=>⟨fun h=>(by cases h),fun _=>⟨true,⟨by simp⟩,fun _=>⟨true,⟨k13⟩,fun _=>⟨fun h0=>?_,fun h0=>?_⟩,fun h=>(by cases h)⟩,fun h=>(by cases h)⟩⟩⟩,fun h=>?_⟩,fun hf=>⟨hb2,_,_,_,_,_,_,_,_,_,_,_,by rw [Int.toNat_natCast]; exact take_pk hil,bxsL R.r,R.fresh,R.src,R.ack,R.next,R.code,⟨k11⟩,fun h=>?_,fun _=>⟨fun h=>?_,fun _=>⟨fun h=>(by cases h),fun _=>⟨true,⟨by simp⟩,fun _=>⟨true,⟨k13⟩,fun _=>⟨fun h0=>?_,fun h0=>?_⟩,fun h=>(by cases h)⟩,fun h=>(by cases h)⟩⟩⟩⟩⟩
 all_goals first
  | (rw [hf] at h; cases h; done)
  | (simp at h; done)
  | exact ⟨(i + 1,R.r),⟨by rw [wrapN (by omega)]⟩,⟨rfl⟩,⟨by show i + 1≤ps.length; omega,h40',rcvOk_iff.2 hRP⟩,by show ps.length - (i + 1) < ps.length - i; omega⟩
  | exact ⟨(i + 1,q),⟨by rw [wrapN (by omega)]⟩,⟨rfl⟩,⟨by show i + 1≤ps.length; omega,h40',hq⟩,by show ps.length - (i + 1) < ps.length - i; omega⟩
theorem lax_of' {P:Program} {G:Glob} (hm:P.follows .mixedOrders = true) {m:List Bool} {f:FuncId} {s:Spec}
  (h:∀ args r,s args = some r→∃ X R C A,CalleeOk P G R∧ICalleeOk P G (lowC C)∧LaxOk P G X R C A m f args r):SpecOk P G f s:=by
 intro g args r lv hr
 by_cases e:g = f
 ·subst e
  simp only [if_true] at hr
  obtain ⟨X,R,C,A,hR,hC,hA⟩:=h args _ hr
  classical
  have key:SpecOk P G g (fun a=>if a = args then some (r,lv) else none):=lax_of (X:=X) (m:=m) hm hR hC fun a r' h'=>by
   split at h'
   ·rename_i ea
    injection h' with h'
    subst ea; subst h'
    exact ⟨A,hA⟩
   ·cases h'
  exact key g args r lv (by simp)
 ·simp only [if_neg e] at hr
  cases hr
theorem ispec_of' {P:Program} {G:Glob} (hm:P.follows .mixedOrders = true) {m:List Bool} {f:FuncId} {s:ISpec}
  (h:∀ args S p r,s args S = some (p,r)→p→∃ X R C A,CalleeOk P G R∧ICalleeOk P G (lowC C)∧OpenOk P G X R C A m f args S r):ISpecOk P G f s:=by
 intro g args S r S' hr
 simp only [lowC] at hr
 by_cases e:g = f
 ·subst e
  simp only [if_true] at hr
  split at hr
  case h_2=>cases hr
  rename_i x hx
  split at hr
  case isFalse=>cases hr
  rename_i hp
  injection hr with hr
  obtain ⟨X,R,C,A,hR,hC,hA⟩:=h args S x.1 x.2 hx hp
  classical
  have key:ISpecOk P G g (fun a T=>if a = args∧T = S then some (True,x.2) else none):=ispec_of (X:=X) (m:=m) hm hR hC fun a T p r' h' _=>by
   split at h'
   ·rename_i ea
    injection h' with h'
    obtain ⟨rfl,rfl⟩:=ea
    injection h' with h1 h2
    subst h2
    exact ⟨A,hA⟩
   ·cases h'
  refine key g args S r S' ?_
  simp only [lowC,and_self,if_true,hr]
 ·simp only [if_neg e] at hr
  cases hr
theorem unG_inv (a:AV) (x:FcI) (h:unG a = some x):a = fcA x:=by
 unfold unG at h
 split at h
 ·rename_i src seq kind ref table key event sz es
  split at h
  ·rename_i hz
   subst hz
   cases hu:unL unV es with
   | none=>rw [hu] at h; cases h
   | some fs =>
    rw [hu] at h
    injection h with h; subst h
    rw [unL_inv unV_inv hu]
    rfl
  ·cases h
 ·cases h
theorem unGs_inv {es:List AV} {l:List FcI} (h:unL unG es = some l):es = fcsL l:=unL_inv unG_inv h
theorem take_f {l:List FcI} {i:Nat} (h:i < l.length):takeAt PI 33 (fcsL l) i 0 = some (fcA l[i]):=by
 simp only [takeAt,List.getElem?_map,List.getElem?_eq_getElem h,Option.map_some,takeA,agg33,size33]
 rfl
theorem keptOpen_fc (n:Int) (l:List FcI):keptOpen n (fcsL l) = fcsL (l.filter (keepF n)):=by
 unfold keptOpen
 rw [List.filter_map]
 rfl
theorem keptIdx_none {n:Int} {l:List FcI} (h:l.all (keepF n) = true):keptIdx n (fcsL l) = -1:=by
 unfold keptIdx
 rw [if_pos]
 rw [List.all_map]; exact h
theorem keptIdx_at {n:Int} {l:List FcI} {i:Nat} (hi:i < l.length) (h:(l.take i).all (keepF n) = true) (h2:keepF n l[i] = false):keptIdx n (fcsL l) = i:=by
 unfold keptIdx
 have hne:¬ (fcsL l).all (fun e=>!decide (seqOf e < n)) = true:=fun hf=>by
  rw [List.all_map] at hf
  have:=List.all_eq_true.1 hf _ (List.getElem_mem hi)
  rw [show ((fun e=>!decide (seqOf e < n)) ∘ fcA) l[i] = keepF n l[i] from rfl,h2] at this
  cases this
 rw [if_neg hne,List.takeWhile_map,List.length_map]
 congr 1
 have e:l = l.take i ++ l[i] :: l.drop (i + 1):=by rw [← List.drop_eq_getElem_cons hi,List.take_append_drop]
 have:(l.takeWhile (keepF n)).length = i:=by
  conv=>lhs; rw [e]
  rw [List.takeWhile_append_of_pos (fun a ha=>List.all_eq_true.1 h a ha),List.takeWhile_cons_of_neg (by rw [h2]; simp)]
  simp; omega
 exact this
theorem keptIdx_cases (n:Int) (l:List FcI):(keptIdx n (fcsL l) = -1∧l.all (keepF n) = true)∨∃ i:Nat,∃ h:i < l.length,keptIdx n (fcsL l) = i∧(l.take i).all (keepF n) = true∧keepF n l[i] = false:=by
 by_cases h:l.all (keepF n) = true
 ·exact .inl ⟨keptIdx_none h,h⟩
 ·right
  have hlen:(l.takeWhile (keepF n)).length < l.length:=by
   rcases Nat.lt_or_ge (l.takeWhile (keepF n)).length l.length with h' | h'
   ·exact h'
   ·have:=(List.takeWhile_prefix (keepF n) (l:=l)).eq_of_length_le h'
    exact absurd (by rw [← this]; exact List.all_takeWhile) h
  have h1:(l.take (l.takeWhile (keepF n)).length).all (keepF n) = true:=by
   rw [← List.prefix_iff_eq_take.1 (List.takeWhile_prefix (keepF n) (l:=l))]
   exact List.all_takeWhile
  have h2:keepF n l[(l.takeWhile (keepF n)).length] = false:=by
   have hd:l = l.takeWhile (keepF n) ++ l.dropWhile (keepF n):=List.takeWhile_append_dropWhile.symm
   have hdl:0 < (l.dropWhile (keepF n)).length:=by
    have:=congrArg List.length hd
    rw [List.length_append] at this; omega
   have:=List.head_dropWhile_not (p:=keepF n) (l:=l) (by intro e; rw [e] at hdl; simp at hdl)
   have e2:∀ k,k = (l.takeWhile (keepF n)).length→l[k]? = some ((l.dropWhile (keepF n)).head (by intro e; rw [e] at hdl; simp at hdl)):=by
    intro k hk
    have:l[k]? = (l.takeWhile (keepF n) ++ l.dropWhile (keepF n))[k]?:=congrArg (·[k]?) hd
    rw [this,List.getElem?_append_right (by omega),hk,Nat.sub_self,← List.head?_eq_getElem?,List.head?_eq_some_head]
   have e2:=e2 _ rfl
   rw [List.getElem?_eq_getElem hlen] at e2
   injection e2 with e2
   rw [e2]; exact this
  exact ⟨_,hlen,keptIdx_at hlen h1 h2,h1,h2⟩
theorem o47 (m:Int):ISpecOk PI (GI m) 47 s47:=ispec_of' (m:=[]) mixedI fun args S p r h hp=>by
 unfold s47 at h
 split at h
 case h_3=>cases h
 case h_1 =>
  split at h
  case isFalse=>cases h
  rename_i hc
  obtain ⟨rfl,rfl,rfl,rfl,rfl,ha,rfl,rfl,rfl,rfl⟩:=hc
  have ha:=List.isEmpty_iff.1 ha
  subst ha
  injection h with h
  injection h with _ h; subst h
  exact ⟨XK,tbl [],itbl [],nAn,tbl_nil,itbl_nil,⟨by rw [w47]; exact ⟨fun h=>⟨rfl,by rw [h]⟩,fun h=>⟨rfl,by rw [h]⟩⟩⟩⟩
 case h_2 =>
  split at h
  case isFalse=>cases h
  rename_i hc
  obtain ⟨rfl,rfl,rfl,rfl,rfl,rfl,ha,rfl,rfl,rfl,rfl⟩:=hc
  have ha:=List.isEmpty_iff.1 ha
  subst ha
  injection h with h
  injection h with _ h; subst h
  exact ⟨XK,tbl [],itbl [],nAn,tbl_nil,itbl_nil,⟨by rw [w47f]; exact ⟨fun h=>⟨rfl,by rw [h]⟩,fun h=>⟨rfl,by rw [h]⟩⟩⟩⟩
theorem p62 (m:Int) (nm src fsrc tab key:List UInt8) (nx pn seq kind ref ev:Int) (ack:Bool) (l1 fs:List AV) (l:List FcI) (hl:l.length≤2000000) :
  OpenOk PI (GI m) XK (tbl []) (itbl [(47,s47)]) (a62 nm nx l1 (pkD src ack pn fsrc seq kind ref tab key ev fs) pn l) [] 62 [.ms 3 8 l.length,.fn 47 [.ptr 1 0]] (S4 nm nx l1 (pkD src ack pn fsrc seq kind ref tab key ev fs) l) (.int .i64 (keptIdx pn (fcsL l)),S4 nm nx l1 (pkD src ack pn fsrc seq kind ref tab key ev fs) l):=by
 constructor
 rw [w62]
 refine ⟨⟨0,⟨rfl⟩,⟨rfl⟩,⟨Nat.zero_le _,rfl⟩,trivial⟩,fun x hx=>⟨fun hlt=>?_,fun hge=>?_⟩⟩
 ·have hlt:=of_decide_eq_true hlt
  have hil:x < l.length:=by omega
  refine ⟨⟨by omega,hlt⟩,_,_,_,_,_,_,_,_,by rw [Int.toNat_natCast]; exact take_f hil,trivial,fun hs=>⟨rfl,?_⟩,fun hs=>⟨x + 1,⟨by rw [wrapN (by omega)]⟩,⟨rfl⟩,⟨hil,?_⟩,by omega⟩⟩
  ·rw [keptIdx_at hil hx.2 (by simp only [keepF]; rw [hs]; rfl)]
  ·rw [List.take_succ_eq_append_getElem hil,List.all_append,hx.2]
   simp only [List.all_cons,List.all_nil,Bool.and_true,Bool.true_and,keepF]
   rw [hs]; rfl
 ·have hge:=of_decide_eq_false hge
  refine ⟨rfl,?_⟩
  rw [keptIdx_none]
  have:=hx.2
  rwa [List.take_of_length_le (by omega)] at this
theorem p62e (m:Int) (z1:Nat) (nm src fsrc tab key:List UInt8) (nx pn seq kind ref ev:Int) (ack:Bool) (l1 fs:List AV) :
  OpenOk PI (GI m) XK (tbl []) (itbl [(47,s47)]) (a62e nm nx z1 l1 (pkD src ack pn fsrc seq kind ref tab key ev fs)) [] 62 [.sl 8 [] .full,.fn 47 [.ptr 1 0]] (S3 nm nx z1 l1 (pkD src ack pn fsrc seq kind ref tab key ev fs)) (.int .i64 (-1),S3 nm nx z1 l1 (pkD src ack pn fsrc seq kind ref tab key ev fs)):=by
 constructor
 rw [w62e]
 exact ⟨⟨(),⟨rfl⟩,⟨rfl⟩,trivial,trivial⟩,fun _ _=>⟨fun h=>(by cases h),fun _=>⟨rfl,rfl⟩⟩⟩
theorem o62 (m:Int):ISpecOk PI (GI m) 62 s62:=ispec_of' (m:=[]) mixedI fun args S p r h hp=>by
 unfold s62 at h
 split at h
 case h_3=>cases h
 case h_1 =>
  split at h
  case isFalse=>cases h
  rename_i hc
  obtain ⟨rfl,rfl,rfl,rfl,rfl,rfl,rfl,ha,rfl,rfl,rfl,rfl⟩:=hc
  have ha:=List.isEmpty_iff.1 ha
  subst ha
  injection h with h
  injection h with h1 h; subst h1 h
  obtain ⟨⟨l,rfl⟩,rfl,hl⟩:=hp
  rw [List.length_map] at hl ⊢
  exact ⟨XK,_,_,_,tbl_nil,itbl_cons (o47 m) itbl_nil,p62 m _ _ _ _ _ _ _ _ _ _ _ _ _ _ l hl⟩
 case h_2 =>
  split at h
  case isFalse=>cases h
  rename_i hc
  obtain ⟨rfl,rfl,rfl,rfl,rfl,ha,rfl,rfl⟩:=hc
  have ha:=List.isEmpty_iff.1 ha
  subst ha
  injection h with h
  injection h with _ h; subst h
  exact ⟨XK,_,_,_,tbl_nil,itbl_cons (o47 m) itbl_nil,p62e m _ _ _ _ _ _ _ _ _ _ _ _ _ _ _⟩
theorem p46 (m:Int) (nm src fsrc tab key:List UInt8) (nx pn seq kind ref ev:Int) (ack:Bool) (l1 fs:List AV) (l:List FcI) (hl:l.length≤2000000) :
  OpenOk PI (GI m) XK (tbl []) (itbl [(47,s47),(62,s62)]) (a46 nm nx l1 (pkD src ack pn fsrc seq kind ref tab key ev fs) pn l) [] 46 [.ms 3 8 l.length,.fn 47 [.ptr 1 0]] (S4 nm nx l1 (pkD src ack pn fsrc seq kind ref tab key ev fs) l) (.ms 3 8 (keptOpen pn (fcsL l)).length,⟨[some (sdC nm nx 8 l1),some (pkD src ack pn fsrc seq kind ref tab key ev fs),some sdZ,some (ownC 8 (keptOpen pn (fcsL l)))],[]⟩):=by
 constructor
 rw [w46]
 rcases keptIdx_cases pn l with ⟨hi,hall⟩ | ⟨i,hil,hi,hpre,hat⟩
 ·rw [hi]
  have hf:l.filter (keepF pn) = l:=List.filter_eq_self.2 fun a ha=>List.all_eq_true.1 hall a ha
  refine ⟨⟨⟨l,rfl⟩,(List.length_map ..).symm,by rw [List.length_map]; exact hl⟩,fun _=>⟨rfl,?_⟩,fun h=>(by cases h)⟩
  rw [keptOpen_fc,hf,List.length_map]
 ·rw [hi]
  have hpf:(l.take i).filter (keepF pn) = l.take i:=List.filter_eq_self.2 fun a ha=>List.all_eq_true.1 hpre a ha
  refine ⟨⟨⟨l,rfl⟩,(List.length_map ..).symm,by rw [List.length_map]; exact hl⟩,fun h=>(by simp at h),fun _=>⟨⟨⟨i,i + 1,l⟩,⟨by rw [wrapN (by omega)]⟩,⟨rfl⟩,⟨Nat.lt_succ_self _,hil,rfl,?_,rfl⟩,trivial⟩,fun x hx=>⟨fun hlt=>?_,fun hge=>?_⟩⟩⟩
  ·rw [List.take_succ_eq_append_getElem hil,List.filter_append,hpf,List.filter_cons_of_neg (by rw [hat]; simp)]
   simp
  ·obtain ⟨j,i,cur⟩:=x
   simp only at hx hlt ⊢
   obtain ⟨hji,hil2,hcl,hpre,hsuf⟩:=hx
   have hlt:=of_decide_eq_true hlt
   have hi:i < l.length:=by omega
   have hic:i < cur.length:=by omega
   have hei:cur[i] = l[i]:=by
    have:=congrArg (·[0]?) hsuf
    simp only [List.getElem?_drop,Nat.add_zero] at this
    rw [List.getElem?_eq_getElem hi,List.getElem?_eq_getElem hic] at this
    injection this
   have hdrop:cur.drop (i + 1) = l.drop (i + 1):=by
    have:=congrArg (·.drop 1) hsuf
    simpa [List.drop_drop,Nat.add_comm] using this
   have htk:(l.take (i + 1)).filter (keepF pn) = (l.take i).filter (keepF pn) ++ (if keepF pn l[i] then [l[i]] else []):=by
    rw [List.take_succ_eq_append_getElem hi,List.filter_append]
    congr 1
    by_cases h:keepF pn l[i] = true
    ·rw [if_pos h,List.filter_cons_of_pos h]; rfl
    ·rw [if_neg h,List.filter_cons_of_neg h]; rfl
   refine ⟨⟨by omega,hlt⟩,_,_,_,_,_,_,_,_,by rw [Int.toNat_natCast]; exact take_f hic,trivial,fun hs=>⟨⟨j,i + 1,cur⟩,⟨by rw [wrapN (by omega)]⟩,⟨rfl⟩,⟨by show j < i + 1; omega,hi,hcl,?_,hdrop⟩,by show l.length - (i + 1) < l.length - i; omega⟩,fun hs=>?_⟩
   ·rw [hei] at hs
    show cur.take j = _
    rw [htk,if_neg (by simp only [keepF]; rw [hs]; simp),List.append_nil]; exact hpre
   ·refine ⟨⟨by omega,by omega⟩,by rw [List.length_map,Int.toNat_natCast]; omega,⟨j + 1,i + 1,cur.set j l[i]⟩,⟨by rw [wrapN (by omega),wrapN (by omega)]⟩,⟨?_⟩,⟨by show j + 1 < i + 1; omega,hi,by show (cur.set j l[i]).length = _; rw [List.length_set]; exact hcl,?_,?_⟩,by show l.length - (i + 1) < l.length - i; omega⟩
    ·rw [Int.toNat_natCast]
     have hg:(fcsL cur).getD j .junk = fcA (cur[j]'(by omega)):=by
      rw [List.getD_eq_getElem?_getD,List.getElem?_map,List.getElem?_eq_getElem (by omega)]; rfl
     rw [hg]
     have e:(fcsL cur).set j (fcA cur[i]) = fcsL (cur.set j l[i]):=by rw [hei]; exact List.map_set.symm
     exact congrArg (fun y=>({ boxes:=[some (sdC nm nx 8 l1),some (pkD src ack pn fsrc seq kind ref tab key ev fs),some sdZ,some (ownC 8 y)],live:=[] }:St)) e
    ·rw [hei] at hs
     show (cur.set j l[i]).take (j + 1) = _
     rw [htk,if_pos (by simp only [keepF]; rw [hs]; rfl),← hpre]
     have hj:j < (cur.set j l[i]).length:=by rw [List.length_set]; omega
     rw [List.take_succ_eq_append_getElem hj,List.take_set_of_le (Nat.le_refl _),List.getElem_set_self]
    ·show (cur.set j l[i]).drop (i + 1) = _
     rw [List.drop_set_of_lt (by omega)]; exact hdrop
  ·obtain ⟨j,i,cur⟩:=x
   simp only at hx hge ⊢
   obtain ⟨hji,hil2,hcl,hpre,hsuf⟩:=hx
   have hge:=of_decide_eq_false hge
   obtain rfl:i = l.length:=by omega
   rw [List.take_of_length_le (Nat.le_refl _)] at hpre
   rw [Int.toNat_natCast,List.length_map,keptOpen_fc,List.length_map]
   have hjl:j = (l.filter (keepF pn)).length:=by
    rw [← hpre,List.length_take]; omega
   refine ⟨by omega,trivial,⟨by omega,Nat.le_refl _⟩,trivial,by omega,by omega,trivial,⟨Nat.zero_le _,by omega⟩,rfl,?_⟩
   rw [← List.map_take,hpre,← hjl]
theorem p46e (m:Int) (z1:Nat) (nm src fsrc tab key:List UInt8) (nx pn seq kind ref ev:Int) (ack:Bool) (l1 fs:List AV) :
  OpenOk PI (GI m) XK (tbl []) (itbl [(47,s47),(62,s62)]) nAn [] 46 [.sl 8 [] .full,.fn 47 [.ptr 1 0]] (S3 nm nx z1 l1 (pkD src ack pn fsrc seq kind ref tab key ev fs)) (.sl 8 [] .full,S3 nm nx z1 l1 (pkD src ack pn fsrc seq kind ref tab key ev fs)):=by
 constructor
 rw [w46e]
 exact ⟨trivial,fun _=>⟨rfl,rfl⟩,fun h=>(by cases h)⟩
theorem o46 (m:Int):ISpecOk PI (GI m) 46 s46:=ispec_of' (m:=[]) mixedI fun args S p r h hp=>by
 have hC:=itbl_cons (o47 m) (itbl_cons (o62 m) itbl_nil)
 unfold s46 at h
 split at h
 case h_3=>cases h
 case h_1 =>
  split at h
  case isFalse=>cases h
  rename_i hc
  obtain ⟨rfl,rfl,rfl,rfl,rfl,rfl,rfl,ha,rfl,rfl,rfl,rfl⟩:=hc
  have ha:=List.isEmpty_iff.1 ha
  subst ha
  injection h with h
  injection h with h1 h; subst h1 h
  obtain ⟨⟨l,rfl⟩,rfl,hl⟩:=hp
  rw [List.length_map] at hl
  have:=p46 m
  rw [show (fcsL l).length = l.length from List.length_map ..]
  exact ⟨XK,_,_,_,tbl_nil,hC,p46 m _ _ _ _ _ _ _ _ _ _ _ _ _ _ l hl⟩
 case h_2 =>
  split at h
  case isFalse=>cases h
  rename_i hc
  obtain ⟨rfl,rfl,rfl,rfl,rfl,ha,rfl,rfl⟩:=hc
  have ha:=List.isEmpty_iff.1 ha
  subst ha
  injection h with h
  injection h with _ h; subst h
  exact ⟨XK,_,_,_,tbl_nil,hC,p46e m _ _ _ _ _ _ _ _ _ _ _ _ _ _ _⟩
theorem o45 (m:Int):SpecOk PI (GI m) 45 s45:=spec_of (X:=XK) (m:=[]) mixedI tbl_nil itbl_nil fun args r h=>by
 unfold s45 at h
 split at h
 case h_2=>cases h
 split at h
 case isFalse=>cases h
 rename_i hz
 subst hz
 injection h with h; subst h
 exact ⟨nAn,⟨by rw [w45]; exact ⟨rfl⟩⟩⟩
theorem o44p (m:Int):SpecOk PI (GI m) 44 s44p:=spec_of (X:=XK) (m:=[]) mixedI tbl_nil itbl_nil fun args r h=>by
 unfold s44p at h
 split at h
 case h_2=>cases h
 rename_i sz x es
 split at h
 case isFalse=>cases h
 rename_i hz
 obtain ⟨rfl,hz⟩:=hz
 injection h with h; subst h
 refine ⟨nAn,⟨?_⟩⟩
 rw [w44]
 simp only [List.length_cons]
 exact ⟨rfl,.inr trivial,by omega,fun h=>(by cases h),fun _=>⟨by omega,⟨by simp⟩⟩⟩
theorem o44z (m:Int):SpecOk PI (GI m) 44 s44z:=by
 intro g args r lv h E w vs hI hG hn' hv hcl
 simp only at h
 split at h
 case isFalse=>cases h
 case isTrue e =>
 subst e
 unfold s44z at h
 split at h
 case h_2=>cases h
 case h_1 sz o =>
 simp only [Option.some.injEq,Prod.mk.injEq] at h
 obtain ⟨rfl,rfl⟩:=h
 obtain ⟨a,rfl⟩:=vs_one hn'
 obtain ⟨A,cap,rfl,hcap⟩:=rep_slice_shape (hv 0 _ _ rfl rfl)
 have hrep:∀ (A:Option Addr) (w':World) (B:Nat→Option Nat) (K:Nat→Nat→Value→Prop),Rep ⟨E.I,B,K⟩ w' (.sl 8 [] .full) (.slice A 0 0):=fun A w' B K=>.sl 8 [] .full A 0 (fun _ _=>.bool true) (Nat.le_refl _) (Nat.zero_le _) (.inl rfl) (by simp) (by simp) rfl (fun i e j c hi=>by simp at hi) (fun _ _=>rfl)
 cases A with
 | none=>exact .inl ⟨I41.good44,(I41.cloneNil44 _ cap w).mono fun e w' ⟨he,hw⟩=>⟨_,he,by subst hw; exact res_same fun B K=>hrep none _ B K⟩⟩
 | some a=>exact .inl ⟨I41.good44,(I41.cloneEmpty44 a cap w).mono fun e w' ⟨A,he,hw⟩=>⟨_,he,res_below hw fun B K=>hrep A _ B K⟩⟩
theorem o44n (m:Int):ISpecOk PI (GI m) 44 s44n:=(o44 m).mono fun args S p r h hp=>by
 unfold s44n at h
 split at h
 case h_2=>cases h
 rename_i sz es o
 split at h
 ·rename_i he
  injection h with h
  injection h with h1 h2; subst h1 h2
  exact ⟨True,by simp only [s44,sClone,he,if_true],trivial⟩
 ·rename_i he
  split at h
  case isFalse=>cases h
  rename_i hz
  subst hz
  injection h with h
  injection h with h1 h2; subst h1 h2
  exact ⟨_,by simp only [s44,sClone,he,if_true]; rfl,hp.2⟩
theorem o22 (m:Int):SpecOk PI (GI m) 22 s22:=lax_of (X:=XK) (m:=[]) mixedI (tbl_cons (o45 m) tbl_nil) itbl_nil fun args r h=>by
 unfold s22 at h
 split at h
 case h_2=>cases h
 rename_i nm nx sz es
 split at h
 case isFalse=>cases h
 rename_i hc
 obtain ⟨rfl,hlen⟩:=hc
 split at h
 case h_2=>cases h
 rename_i l hl
 obtain rfl:=unGs_inv hl
 injection h with h; subst h
 refine ⟨a22 nm nx l,⟨?_⟩⟩
 rw [w22]
 have hll:(fcsL l).length = l.length:=List.length_map ..
 have hrl:∀ n,n≤l.length→(resP (l.take n)).length = n:=fun n hn=>by simp [resP]; omega
 have hpl:∀ n,n≤l.length→(pksL (resP (l.take n))).length = n:=fun n hn=>by simp [resP]; omega
 rw [hll] at hlen ⊢
 refine ⟨⟨0,⟨rfl⟩,⟨rfl⟩,Nat.zero_le _,trivial⟩,fun x hx=>⟨fun hlt=>?_,fun hge=>?_⟩⟩
 ·have hlt:=of_decide_eq_true hlt
  have hil:x < l.length:=by omega
  refine ⟨⟨by omega,hlt⟩,_,_,_,_,_,_,_,_,by rw [Int.toNat_natCast]; exact take_f hil,_,_,_,_,_,_,_,_,_,_,_,⟨rfl⟩,.inl rfl,by rw [hpl _ hx]; omega,by rw [hpl _ hx,hrl _ hx],x + 1,⟨?_⟩,⟨?_⟩,hil,by omega⟩
  ·rw [wrapN (by omega),List.take_succ_eq_append_getElem hil]
   simp only [resP,List.map_append,List.map_cons,List.map_nil]
   rfl
  ·rw [hpl _ hx,hrl _ hil]
 ·have hge:=of_decide_eq_false hge
  have hx':x = l.length:=by omega
  subst hx'
  rw [List.take_of_length_le (Nat.le_refl _)]
  exact ⟨⟨rfl,rfl,.inl rfl⟩,rfl,rfl⟩
theorem o23 (m:Int):SpecOk PI (GI m) 23 s23:=lax_of (X:=XK) (m:=[]) mixedI tbl_nil (itbl_cons (o44n m) (itbl_cons (o46 m) itbl_nil)) fun args r h=>by
 unfold s23 at h
 split at h
 case h_2=>cases h
 rename_i nm nx sz es src ack n fsrc seq kind ref tab key ev sz2 fs
 split at h
 case isFalse=>cases h
 rename_i hc
 obtain ⟨hsz,rfl,hlen⟩:=hc
 split at h
 case h_2=>cases h
 rename_i l hl
 obtain rfl:=unGs_inv hl
 injection h with h; subst h
 obtain ⟨q,hq⟩:∃ q,ackP ⟨nm,nx,l⟩ src ack n = q:=⟨_,rfl⟩
 rw [hq]
 obtain ⟨⟨rn,rx,rl⟩,rc⟩:=q
 have hz:ackBad nm nx src ack n = true→RetLax (.tup [.agg sdZ,.int .i64 1]) (.tup [.agg (sdC rn rx 8 (fcsL rl)),.int .i64 rc],[]):=fun hb=>by
  simp only [ackP,hb,if_true,Prod.mk.injEq,SdI.mk.injEq] at hq
  obtain ⟨⟨rfl,rfl,rfl⟩,rfl⟩:=hq
  exact ⟨⟨⟨rfl,rfl,⟨rfl,rfl,.inr rfl⟩,trivial⟩,rfl,trivial⟩,rfl,rfl⟩
 have hg:ackBad nm nx src ack n = false→(⟨rn,rx,rl⟩,rc) = ((⟨nm,nx,l.filter fun f=>!decide (f.seq < n)⟩:SdI),(0:Int)):=fun hb=>by
  simp only [ackP,hb,Bool.false_eq_true,if_false] at hq
  exact hq.symm
 cases l with
 | nil =>
  refine ⟨nAn,⟨?_⟩⟩
  have:fcsL rl = []:=by
   cases hb:ackBad nm nx src ack n with
   | true =>
    simp only [ackP,hb,if_true,Prod.mk.injEq,SdI.mk.injEq] at hq
    obtain ⟨⟨rfl,rfl,rfl⟩,rfl⟩:=hq; rfl
   | false =>
    have:=hg hb
    simp only [Prod.mk.injEq,SdI.mk.injEq] at this
    rw [this.1.2.2]; rfl
  unfold sdA
  rw [this] at hz ⊢
  show laxW PI (GI m) XK (tbl []) (itbl [(44,s44n),(46,s46)]) nAn [] 23 [.agg (sdC nm nx sz []),.agg (pkD src ack n fsrc seq kind ref tab key ev fs)] (.tup [.agg (sdC rn rx 8 []),.int .i64 rc],[])
  rw [w23e]
  refine ⟨fun h1=>⟨fun h2=>hz (by simp_all [ackBad]),fun h2=>⟨fun h3=>hz (by simp_all [ackBad]),fun h3=>⟨fun h4=>hz (by simp_all [ackBad]),fun h4=>⟨trivial,trivial,?_⟩⟩⟩⟩,fun h1=>hz (by simp_all [ackBad])⟩
  have:=hg (by simp_all [ackBad])
  simp only [Prod.mk.injEq,SdI.mk.injEq] at this
  obtain ⟨⟨rfl,rfl,_⟩,rfl⟩:=this
  exact ⟨⟨⟨rfl,rfl,⟨rfl,rfl,.inl rfl⟩,trivial⟩,rfl,trivial⟩,rfl,rfl⟩
 | cons f l =>
  obtain rfl:sz = 8:=hsz.resolve_right (by simp)
  refine ⟨nAn,⟨?_⟩⟩
  show laxW PI (GI m) XK (tbl []) (itbl [(44,s44n),(46,s46)]) nAn [] 23 [.agg (sdC nm nx 8 (fcA f :: fcsL l)),.agg (pkD src ack n fsrc seq kind ref tab key ev fs)] (.tup [.agg (sdC rn rx 8 (fcsL rl)),.int .i64 rc],[])
  rw [w23]
  have hlen':l.length + 1≤2000000:=by simpa using hlen
  refine ⟨fun h1=>⟨fun h2=>hz (by simp_all [ackBad]),fun h2=>⟨fun h3=>hz (by simp_all [ackBad]),fun h3=>⟨fun h4=>hz (by simp_all [ackBad]),fun h4=>⟨⟨by simp,by simp; omega⟩,⟨⟨f :: l,rfl⟩,rfl,by simpa using hlen'⟩,rfl,?_⟩⟩⟩⟩,fun h1=>hz (by simp_all [ackBad])⟩
  have:=hg (by simp_all [ackBad])
  simp only [Prod.mk.injEq,SdI.mk.injEq] at this
  obtain ⟨⟨rfl,rfl,rfl⟩,rfl⟩:=this
  refine ⟨⟨⟨rfl,rfl,⟨rfl,?_,.inl rfl⟩,trivial⟩,rfl,trivial⟩,rfl,rfl⟩
  exact keptOpen_fc n (f :: l)
theorem o21 (m:Int):SpecOk PI (GI m) 21 s21:=lax_of' (m:=[]) mixedI fun args r h=>by
 unfold s21 at h
 split at h
 case h_2=>cases h
 rename_i nm nx sz es src seq kind ref tab key ev sz2 es2
 split at h
 case isFalse=>cases h
 rename_i hc
 obtain ⟨hsz,rfl,hlen,hnx⟩:=hc
 split at h
 case h_2=>cases h
 rename_i l fs hl hfs
 obtain rfl:=unGs_inv hl
 obtain rfl:=unL_inv unV_inv hfs
 injection h with h; subst h
 obtain ⟨g,hgd⟩:∃ g:FcI,(⟨src,seq,kind,ref,tab,key,ev,fs⟩:FcI) = g:=⟨_,rfl⟩
 rw [hgd]
 obtain ⟨q,hq⟩:∃ q,subP ⟨nm,nx,l⟩ g = q:=⟨_,rfl⟩
 rw [hq]
 obtain ⟨⟨rn,rx,rl⟩,p,rc⟩:=q
 have hZ:∀ c:Int,(q:(⟨⟨rn,rx,rl⟩,p,rc⟩:SdI × PkI × Int) = (⟨[],0,[]⟩,⟨[],false,0,⟨[],0,0,0,[],[],0,[]⟩⟩,c))→RetLax (.tup [.agg sdZ,.agg zeroPC,.int .i64 c]) (.tup [.agg (sdC rn rx 8 (fcsL rl)),pkA p,.int .i64 rc],[]):=fun c hq=>by
  simp only [Prod.mk.injEq,SdI.mk.injEq] at hq
  obtain ⟨⟨rfl,rfl,rfl⟩,rfl,rfl⟩:=hq
  exact ⟨⟨⟨rfl,rfl,⟨rfl,rfl,.inr rfl⟩,trivial⟩,⟨rfl,rfl,rfl,rfl,rfl,rfl,rfl,rfl,rfl,rfl,⟨rfl,rfl,.inr rfl⟩,trivial⟩,rfl,trivial⟩,rfl,rfl⟩
 have h1:decide (nx > 1099511627776) = true→(⟨⟨rn,rx,rl⟩,p,rc⟩:SdI × PkI × Int) = (⟨[],0,[]⟩,⟨[],false,0,⟨[],0,0,0,[],[],0,[]⟩⟩,2):=fun h=>by
  have h:=of_decide_eq_true h
  rw [← hq]; unfold subP; rw [if_pos (by show (1099511627776:Int) < nx; omega)]
 have h2:decide (nx > 1099511627776) = false→64≤l.length→(⟨⟨rn,rx,rl⟩,p,rc⟩:SdI × PkI × Int) = (⟨[],0,[]⟩,⟨[],false,0,⟨[],0,0,0,[],[],0,[]⟩⟩,410):=fun h h'=>by
  have h:=of_decide_eq_false h
  rw [← hq]; unfold subP; rw [if_neg (by show ¬ (1099511627776:Int) < nx; omega),if_pos h']
 have h3:decide (nx > 1099511627776) = false→¬ 64≤l.length→(⟨⟨rn,rx,rl⟩,p,rc⟩:SdI × PkI × Int) = (⟨nm,nx + 1,l ++ [{ g with src:=nm,seq:=nx }]⟩,⟨nm,false,0,{ g with src:=nm,seq:=nx }⟩,0):=fun h h'=>by
  have h:=of_decide_eq_false h
  rw [← hq]; unfold subP; rw [if_neg (by show ¬ (1099511627776:Int) < nx; omega),if_neg h']
 have hw:decide (nx > 1099511627776) = false→IntKind.i64.wrap (nx + 1) = nx + 1:=fun h=>by
  have h:=of_decide_eq_false h
  exact wrap64_in (by omega) (by omega)
 have hgc:(AV.agg [.str src,.int .i64 seq,.int .i64 kind,.int .i64 ref,.str tab,.str key,.int .i64 ev,.sl 3 (fs.map vaA) .no]) = .agg (fcC g):=by rw [← hgd]
 rw [hgc]
 cases l with
 | nil =>
  refine ⟨XZ,_,_,nAn,tbl_cons (o44z m) (tbl_cons (o45 m) tbl_nil),itbl_nil,⟨?_⟩⟩
  show laxW PI (GI m) XZ (tbl [(44,s44z),(45,s45)]) (itbl []) nAn [] 21 [.agg (sdC nm nx sz []),.agg (fcC g)] (.tup [.agg (sdC rn rx 8 (fcsL rl)),pkA p,.int .i64 rc],[])
  rw [w21e]
  refine ⟨fun h=>hZ 2 (h1 h),fun h=>⟨fun h'=>(by cases h'),fun h'=>⟨_,⟨rfl⟩,.inl rfl,by simp,_,_,_,_,_,_,_,_,_,_,_,⟨rfl⟩,?_⟩⟩⟩
  have h3:=h3 h (by simp)
  rw [hw h]
  simp only [Prod.mk.injEq,SdI.mk.injEq] at h3
  obtain ⟨⟨rfl,rfl,rfl⟩,rfl,rfl⟩:=h3
  exact ⟨⟨⟨rfl,rfl,⟨rfl,rfl,.inl rfl⟩,trivial⟩,⟨rfl,rfl,rfl,rfl,rfl,rfl,rfl,rfl,rfl,rfl,⟨rfl,rfl,.inl rfl⟩,trivial⟩,rfl,trivial⟩,rfl,rfl⟩
 | cons f l =>
  obtain rfl:sz = 8:=hsz.resolve_right (by simp)
  refine ⟨XK,_,_,nAn,tbl_cons (o44p m) (tbl_cons (o45 m) tbl_nil),itbl_nil,⟨?_⟩⟩
  show laxW PI (GI m) XK (tbl [(44,s44p),(45,s45)]) (itbl []) nAn [] 21 [.agg (sdC nm nx 8 (fcA f :: fcsL l)),.agg (fcC g)] (.tup [.agg (sdC rn rx 8 (fcsL rl)),pkA p,.int .i64 rc],[])
  rw [w21]
  have hlen':l.length + 1≤2000000:=by simpa using hlen
  have k44:tbl [(44,s44p),(45,s45)] 44 [.sl 8 (fcA f :: fcsL l) .no] = some (.sl 8 (fcA f :: fcsL l) (.tok 0),[((fcsL l).length + 1,33)]):=by
   rw [tbl_hit]
   have:(fcsL l).length≤2000000:=by rw [List.length_map]; omega
   simp only [s44p,this,true_and,if_true]
  have hll:(fcA f :: fcsL l).length = l.length + 1:=by simp
  refine ⟨fun h=>hZ 2 (h1 h),fun h=>⟨fun h'=>hZ 410 (h2 h (by have h':=of_decide_eq_true h'; have:((fcA f :: fcsL l).length:Int) ≥ 64:=h'; rw [hll] at this; simp only [List.length_cons]; omega)),fun h'=>⟨_,⟨k44⟩,.inl rfl,by rw [hll]; omega,rfl,_,_,_,_,_,_,_,_,_,_,_,⟨rfl⟩,?_⟩⟩⟩
  have h3:=h3 h (by have h':=of_decide_eq_false h'; have h':¬ ((fcA f :: fcsL l).length:Int) ≥ 64:=h'; rw [hll] at h'; simp only [List.length_cons]; omega)
  rw [hw h]
  simp only [Prod.mk.injEq,SdI.mk.injEq] at h3
  obtain ⟨⟨rfl,rfl,rfl⟩,rfl,rfl⟩:=h3
  exact ⟨⟨⟨rfl,rfl,⟨rfl,by rw [show fcsL (f :: l ++ [_]) = fcA f :: (fcsL l ++ [_]) from by simp [fcsL]; rfl]; rfl,.inl rfl⟩,trivial⟩,⟨rfl,rfl,rfl,rfl,rfl,rfl,rfl,rfl,rfl,rfl,⟨rfl,rfl,.inl rfl⟩,trivial⟩,rfl,trivial⟩,rfl,rfl⟩
end Go.Abs
namespace Go.Abs
open Go.Proofs
structure EnI where
 tick:Int
 kind:Int
 f:FcI
deriving DecidableEq,Inhabited
def enA (e:EnI):AV:=.agg [.opq,.int .i64 e.tick,.int .i64 e.kind,.str e.f.src,.int .i64 e.f.seq,.int .i64 e.f.kind,.int .i64 e.f.ref,.str e.f.table,.str e.f.key,.int .i64 e.f.event,.sl 3 (vasL e.f.fs) .no,.opq,.opq,.opq,.opq,.opq,.opq,.opq,.opq,.opq,.opq,.opq,.opq,.opq,.opq,.opq,.opq,.opq,.opq,.opq,.opq,.opq,.opq,.opq,.opq,.opq,.opq,.opq,.opq,.opq]
abbrev ensL (l:List EnI):List AV:=l.map enA
def isOpq:AV→Bool
 | .opq=>true
 | _=>false
def unE:AV→Option EnI
 | .agg (.opq :: .int .i64 tick :: .int .i64 kind :: .str src :: .int .i64 seq :: .int .i64 k2 :: .int .i64 ref :: .str table :: .str key :: .int .i64 event :: .sl sz es .no :: rest)=>if sz = 3∧rest.length = 29∧rest.all isOpq = true then (unL unV es).map fun fs=>⟨tick,kind,⟨src,seq,k2,ref,table,key,event,fs⟩⟩ else none
 | _=>none
def relB (tick:Int) (e:EnI):Bool:=decide (e.kind = 1) && decide (e.tick≤tick)
def metL (tick:Int) (l:List EnI):List EnI:=l.filter (relB tick)
abbrev idA (s:List UInt8) (n:Int):AV:=.agg [.str s,.int .i64 n]
def idsM (L:List EnI):List AV:=L.foldl (fun m e=>keptPutM m (idA e.f.src e.f.seq) (.bool true)) []
def srcM (L:List EnI):List AV:=L.foldl (fun m e=>keptPutM m (.str e.f.src) (.bool true)) []
def hasId (L:List EnI) (s:List UInt8) (n:Int):Bool:=L.any fun e=>decide (e.f.src = s) && decide (e.f.seq = n)
def nextF (has:Int→Bool):Nat→Int→Int
 | 0,n=>n
 | k + 1,n=>if has n then nextF has k (n + 1) else n
def nextM (L:List EnI) (s:List UInt8):Int:=nextF (hasId L s) L.length 1
def mkOf (L:List EnI) (s:List UInt8):MkI:=⟨s,nextM L s⟩
def nmsM (L:List EnI):List (List UInt8):=keptSort (keysM (srcM L))
def marksM (L:List EnI):List MkI:=(nmsM L).map (mkOf L)
def insN (s:List UInt8) (l:List (List UInt8)):List (List UInt8):=
 let k:=(l.takeWhile fun a=>Op.bytesLess a s).length
 if l[k]? = some s then l else l.take k ++ [s] ++ l.drop k
def nmsR (L:List EnI):List (List UInt8):=L.foldl (fun m e=>insN e.f.src m) []
def idsOk (l:List EnI):Bool:=l.all fun e=>decide (e.f.src.length≤140737488351232) && decide (-9223372036854775808≤e.f.seq) && decide (e.f.seq≤9223372036854775807)
def s15:Spec:=fun args=>match args with
 | [.sl sz es .no,.int .i64 tick]=>if sz = 40∧es.length≤2000000 then (match unL unE es with
  | some l=>if idsOk l = true then some (.sl 2 (mksL (marksM (metL tick l))) .no,[]) else none
  | none=>none) else none
 | _=>none
def s42:Spec:=fun args=>match args with
 | [.sl sz es .no,.int .i64 tick,.agg [.str s,.int .i64 n]]=>if sz = 40∧es.length≤2000000 then (match unL unE es with
  | some l=>some (.bool (hasId (metL tick l) s n),[])
  | none=>none) else none
 | _=>none
abbrev shEn:Sh × Option TypeId:=(.val (.agg [.is .opq,.int .i64,.int .i64,.str,.int .i64,.int .i64,.int .i64,.str,.str,.int .i64,.sl 3 .no,.is .opq,.is .opq,.is .opq,.is .opq,.is .opq,.is .opq,.is .opq,.is .opq,.is .opq,.is .opq,.is .opq,.is .opq,.is .opq,.is .opq,.is .opq,.is .opq,.is .opq,.is .opq,.is .opq,.is .opq,.is .opq,.is .opq,.is .opq,.is .opq,.is .opq,.is .opq,.is .opq,.is .opq,.is .opq]),none)
def XMa:Shapes:=fun f=>match f with
 | 42 | 7 | 9 | 14=>some shB
 | 15 | 16=>some (.val (.one (.sl 2 .no)),none)
 | 2000063=>some shEn
 | _=>none
abbrev SM0 (L:List EnI):St:=⟨[some (mapC 111 L.length (idsM L)),some (mapC 112 L.length (srcM L))],[]⟩
structure St15 where
 i:Nat
 j:Nat
 s:List UInt8
def a15 (l:List EnI) (tick:Int):Anns:=⟨fun k=>match k with
 | 4=>some { α:=Nat,slots:=[1,4,5,6,14,15,16],nb:=2,vals:=fun n=>[.int .i64 tick,.sl 0 [] .nil,.mp 0,.mp 1,.sl 40 (ensL l) .no,.int .i64 l.length,.int .i64 n],sS:=fun n=>SM0 (metL tick (l.take n)),I:=fun n=>n≤l.length,μ:=fun n=>l.length - n }
 | 11=>some { α:=Nat,slots:=[4,5,41,42,43],nb:=3,vals:=fun n=>[.sl 2 (mksL ((marksM (metL tick l)).take n)) (.tok 0),.mp 0,.sl 1 ((nmsM (metL tick l)).map .str) .no,.int .i64 (nmsM (metL tick l)).length,.int .i64 n],sS:=fun n=>⟨[some (mapC 111 (metL tick l).length (idsM (metL tick l))),some (mapC 112 (metL tick l).length (srcM (metL tick l))),some [.mp 1]],[(((marksM (metL tick l)).take n).length,93)]⟩,I:=fun n=>n≤(nmsM (metL tick l)).length,μ:=fun n=>(nmsM (metL tick l)).length - n,mint:=[(4,93)] }
 | 14=>some { α:=St15,slots:=[4,5,10,11,41,42,43],nb:=4,vals:=fun n=>[.sl 2 (mksL ((marksM (metL tick l)).take n.i)) (.tok 0),.mp 0,.str n.s,.ptr 3 0,.sl 1 ((nmsM (metL tick l)).map .str) .no,.int .i64 (nmsM (metL tick l)).length,.int .i64 n.i],sS:=fun n=>⟨[some (mapC 111 (metL tick l).length (idsM (metL tick l))),some (mapC 112 (metL tick l).length (srcM (metL tick l))),some [.mp 1],some [.str n.s,.int .i64 (n.j + 1)]],[(((marksM (metL tick l)).take n.i).length,93)]⟩,I:=fun n=>(nmsM (metL tick l))[n.i]? = some n.s∧n.j≤(metL tick l).length∧(∀ k:Nat,k < n.j→hasId (metL tick l) n.s (k + 1) = true)∧nextF (hasId (metL tick l) n.s) ((metL tick l).length - n.j) (n.j + 1) = nextM (metL tick l) n.s,μ:=fun n=>(metL tick l).length - n.j,link:=some fun T n=>T[43]? = some (.int .i64 n.i) }
 | _=>none,nA⟩
def a42 (l:List EnI) (tick:Int) (s:List UInt8) (x:Int):Anns:=⟨fun k=>if k = 2 then some { α:=Nat,slots:=[0,1,5,7],nb:=1,vals:=fun n=>[.sl 40 (ensL l) .no,.int .i64 tick,.ptr 0 0,.int .i64 n],sS:=fun _=>⟨[some [.str s,.int .i64 x]],[]⟩,I:=fun n=>n≤l.length∧hasId (metL tick (l.take n)) s x = false,μ:=fun n=>l.length - n } else none,nA⟩
def outR (l:List EnI) (tick:Int) (i:Nat):List MkI:=(nmsR (metL tick (l.take i))).map (mkOf (metL tick l))
structure St16 where
 i:Nat
 at_:Nat
 s:List UInt8
 j:Nat
def a16 (l:List EnI) (tick:Int):Anns:=⟨fun k=>match k with
 | 3=>some { α:=Nat,slots:=[0,1,5,6],nb:=0,vals:=fun n=>[.sl 40 (ensL l) .no,.int .i64 tick,.sl 2 (mksL (outR l tick n)) .no,.int .i64 n],sS:=fun _=>⟨[],[]⟩,I:=fun n=>n≤l.length,μ:=fun n=>l.length - n,mint:=[(5,93)],keep:=some 0 }
 | 8=>some { α:=St16,slots:=[0,1,5,6,7,8],nb:=1,vals:=fun n=>[.sl 40 (ensL l) .no,.int .i64 tick,.sl 2 (mksL (outR l tick n.i)) .no,.int .i64 n.i,.ptr 0 0,.int .i64 n.at_],sS:=fun n=>⟨[some [.str n.s,.int .i64 1]],[]⟩,I:=fun n=>n.i < l.length∧(∃ e,l[n.i]? = some e∧relB tick e = true∧e.f.src = n.s)∧n.at_≤((nmsR (metL tick (l.take n.i))).takeWhile fun a=>Op.bytesLess a n.s).length,μ:=fun n=>(outR l tick n.i).length - n.at_,link:=some fun T n=>T[6]? = some (.int .i64 n.i) }
 | 1000010=>some { α:=St16,slots:=[0,1,5,6,7,8],nb:=1,vals:=fun n=>[.sl 40 (ensL l) .no,.int .i64 tick,.sl 2 (mksL (outR l tick n.i)) .no,.int .i64 n.i,.ptr 0 0,.int .i64 n.at_],sS:=fun n=>⟨[some [.str n.s,.int .i64 1]],[]⟩,I:=fun n=>n.i < l.length∧(∃ e,l[n.i]? = some e∧relB tick e = true∧e.f.src = n.s)∧n.at_ = ((nmsR (metL tick (l.take n.i))).takeWhile fun a=>Op.bytesLess a n.s).length,μ:=fun _=>0,rel:=fun T n=>T[6]? = some (.int .i64 n.i) }
 | 1000011=>some { α:=St16,slots:=[0,1,5,6,7,8],nb:=1,vals:=fun n=>[.sl 40 (ensL l) .no,.int .i64 tick,.sl 2 (mksL (outR l tick n.i)) .no,.int .i64 n.i,.ptr 0 0,.int .i64 n.at_],sS:=fun n=>⟨[some [.str n.s,.int .i64 1]],[]⟩,I:=fun n=>n.i < l.length∧(∃ e,l[n.i]? = some e∧relB tick e = true∧e.f.src = n.s)∧n.at_ = ((nmsR (metL tick (l.take n.i))).takeWhile fun a=>Op.bytesLess a n.s).length∧(nmsR (metL tick (l.take n.i)))[n.at_]? ≠ some n.s,μ:=fun _=>0,rel:=fun T n=>T[6]? = some (.int .i64 n.i) }
 | 11=>some { α:=St16,slots:=[0,1,5,6,7,8],nb:=1,vals:=fun n=>[.sl 40 (ensL l) .no,.int .i64 tick,.sl 2 (mksL (outR l tick n.i)) .no,.int .i64 n.i,.ptr 0 0,.int .i64 n.at_],sS:=fun n=>⟨[some [.str n.s,.int .i64 (n.j + 1)]],[]⟩,I:=fun n=>n.i < l.length∧(∃ e,l[n.i]? = some e∧relB tick e = true∧e.f.src = n.s)∧n.at_ = ((nmsR (metL tick (l.take n.i))).takeWhile fun a=>Op.bytesLess a n.s).length∧(nmsR (metL tick (l.take n.i)))[n.at_]? ≠ some n.s∧n.j≤(metL tick l).length∧(∀ k:Nat,k < n.j→hasId (metL tick l) n.s (k + 1) = true)∧nextF (hasId (metL tick l) n.s) ((metL tick l).length - n.j) (n.j + 1) = nextM (metL tick l) n.s,μ:=fun n=>(metL tick l).length - n.j,link:=some fun T n=>T[6]? = some (.int .i64 n.i) }
 | _=>none,nA⟩
theorem w42 (m:Int) (l:List EnI) (tick:Int) (s:List UInt8) (x:Int):(pureW PI (GI m) XMa (tbl []) (itbl []) (a42 l tick s x) [] 42 [.sl 40 (ensL l) .no,.int .i64 tick,.agg [.str s,.int .i64 x]] (.bool (hasId (metL tick l) s x),[])) =
((∃ (y : Nat),
  ValsAre [AV.sl ((40:Nat)) (ensL l) Own.no,AV.int IntKind.i64 tick,AV.ptr ((0:Nat)) ((0:Nat)),AV.int IntKind.i64 (0:Int)]
    [AV.sl ((40:Nat)) (ensL l) Own.no,AV.int IntKind.i64 tick,AV.ptr ((0:Nat)) ((0:Nat)),AV.int IntKind.i64 (↑y:Int)] ∧
   StIs { boxes:=[some [AV.str s,AV.int IntKind.i64 x]],live:=[] } { boxes:=[some [AV.str s,AV.int IntKind.i64 x]],live:=[] } ∧
    (y≤l.length∧hasId (metL tick (List.take y l)) s x = false)∧True) ∧
 ∀ (x_1:Nat),
  x_1≤l.length∧hasId (metL tick (List.take x_1 l)) s x = false →
   (decide ((↑x_1:Int) < (↑(ensL l).length:Int)) = true →
     ((0:Int)≤(↑x_1:Int)∧(↑x_1:Int) < (↑(ensL l).length:Int)) ∧
      ∃ (n:Int),
       takeAt PI ((3:Nat)) (ensL l) (↑x_1:Int).toNat ((2:Nat)) = some (AV.int IntKind.i64 n) ∧
        ((n == (1 : Int)) = true →
          ((0:Int)≤(↑x_1:Int)∧(↑x_1:Int) < (↑(ensL l).length:Int)) ∧
           ∃ (n:Int),
            takeAt PI ((3:Nat)) (ensL l) (↑x_1:Int).toNat ((1:Nat)) = some (AV.int IntKind.i64 n) ∧
             (decide (n≤tick) = true →
               ((0:Int)≤(↑x_1:Int)∧(↑x_1:Int) < (↑(ensL l).length:Int)) ∧
                ∃ (s_1:List UInt8),
                 ∃ (n:Int),
                  takeAt PI ((30:Nat)) (ensL l) (↑x_1:Int).toNat ((3:Nat)) = some (AV.agg [AV.str s_1,AV.int IntKind.i64 n]) ∧
                   ((s_1 == s && (n == x && true)) = true→RetIs (AV.bool true) [] (AV.bool (hasId (metL tick l) s x),[])) ∧
                    ((s_1 == s && (n == x && true)) = false →
                     ∃ (y:Nat),
                      ValsAre
                        [AV.sl ((40:Nat)) (ensL l) Own.no,AV.int IntKind.i64 tick,AV.ptr ((0:Nat)) ((0:Nat)),
                         AV.int IntKind.i64 (IntKind.i64.wrap ((↑x_1:Int) + (1:Int)))]
                        [AV.sl ((40:Nat)) (ensL l) Own.no,AV.int IntKind.i64 tick,AV.ptr ((0:Nat)) ((0:Nat)),
                         AV.int IntKind.i64 (↑y:Int)] ∧
                       StIs { boxes:=[some [AV.str s,AV.int IntKind.i64 x]],live:=[] }
                         { boxes:=[some [AV.str s,AV.int IntKind.i64 x]],live:=[] } ∧
                        (y≤l.length∧hasId (metL tick (List.take y l)) s x = false)∧l.length - y < l.length - x_1)) ∧
              (decide (n≤tick) = false →
               ∃ (y:Nat),
                ValsAre
                  [AV.sl ((40:Nat)) (ensL l) Own.no,AV.int IntKind.i64 tick,AV.ptr ((0:Nat)) ((0:Nat)),
                   AV.int IntKind.i64 (IntKind.i64.wrap ((↑x_1:Int) + (1:Int)))]
                  [AV.sl ((40:Nat)) (ensL l) Own.no,AV.int IntKind.i64 tick,AV.ptr ((0:Nat)) ((0:Nat)),
                   AV.int IntKind.i64 (↑y:Int)] ∧
                 StIs { boxes:=[some [AV.str s,AV.int IntKind.i64 x]],live:=[] }
                   { boxes:=[some [AV.str s,AV.int IntKind.i64 x]],live:=[] } ∧
                  (y≤l.length∧hasId (metL tick (List.take y l)) s x = false)∧l.length - y < l.length - x_1)) ∧
         ((n == (1:Int)) = false →
          ∃ (y:Nat),
           ValsAre
             [AV.sl ((40:Nat)) (ensL l) Own.no,AV.int IntKind.i64 tick,AV.ptr ((0:Nat)) ((0:Nat)),
              AV.int IntKind.i64 (IntKind.i64.wrap ((↑x_1:Int) + (1:Int)))]
             [AV.sl ((40:Nat)) (ensL l) Own.no,AV.int IntKind.i64 tick,AV.ptr ((0:Nat)) ((0:Nat)),AV.int IntKind.i64 (↑y:Int)] ∧
            StIs { boxes:=[some [AV.str s,AV.int IntKind.i64 x]],live:=[] } { boxes:=[some [AV.str s,AV.int IntKind.i64 x]],live:=[] } ∧
             (y≤l.length∧hasId (metL tick (List.take y l)) s x = false)∧l.length - y < l.length - x_1)) ∧
    (decide ((↑x_1:Int) < (↑(ensL l).length:Int)) = false→RetIs (AV.bool false) [] (AV.bool (hasId (metL tick l) s x),[]))):=by kernel_rfl
theorem w15 (m:Int) (l:List EnI) (tick:Int):(laxW PI (GI m) XMa (tbl []) (itbl [(41,s41),(40,s40)]) (a15 l tick) [] 15 [.sl 40 (ensL l) .no,.int .i64 tick] (.sl 2 (mksL (marksM (metL tick l))) .no,[])) =
((∃ (y : Nat),
  ValsAre
    [AV.int IntKind.i64 tick,AV.sl ((0:Nat)) [] Own.nil,AV.mp ((0:Nat)),AV.mp ((1:Nat)),AV.sl ((40:Nat)) (ensL l) Own.no,
     AV.int IntKind.i64 (↑(ensL l).length:Int),AV.int IntKind.i64 (0:Int)]
    [AV.int IntKind.i64 tick,AV.sl ((0:Nat)) [] Own.nil,AV.mp ((0:Nat)),AV.mp ((1:Nat)),AV.sl ((40:Nat)) (ensL l) Own.no,
     AV.int IntKind.i64 (↑l.length:Int),AV.int IntKind.i64 (↑y:Int)] ∧
   StIs
     {
      boxes:=
       [some [AV.tup [AV.int IntKind.i64 (111:Int),AV.int IntKind.i64 (0:Int),AV.tup []]],
        some [AV.tup [AV.int IntKind.i64 (112:Int),AV.int IntKind.i64 (0:Int),AV.tup []]]],
      live:=[] }
     {
      boxes:=
       [some
         [AV.tup
           [AV.int IntKind.i64 (111:Int),AV.int IntKind.i64 (↑(metL tick (List.take y l)).length:Int),
            AV.tup (idsM (metL tick (List.take y l)))]],
        some
         [AV.tup
           [AV.int IntKind.i64 (112:Int),AV.int IntKind.i64 (↑(metL tick (List.take y l)).length:Int),
            AV.tup (srcM (metL tick (List.take y l)))]]],
      live:=[] } ∧
    y≤l.length∧True) ∧
 ∀ (x:Nat),
  x≤l.length →
   (decide ((↑x:Int) < (↑l.length:Int)) = true →
     ((0:Int)≤(↑x:Int)∧(↑x:Int) < (↑(ensL l).length:Int)) ∧
      ∃ (n:Int),
       ∃ (n_1:Int),
        ∃ (s:List UInt8),
         ∃ (n_2:Int),
          ∃ (n_3:Int),
           ∃ (n_4:Int),
            ∃ (s_1:List UInt8),
             ∃ (s_2:List UInt8),
              ∃ (n_5:Int),
               ∃ (es:List AV),
                takeAt PI ((63:Nat)) (ensL l) (↑x:Int).toNat ((0:Nat)) =
                  some
                   (AV.agg
                    [AV.opq,AV.int IntKind.i64 n,AV.int IntKind.i64 n_1,AV.str s,AV.int IntKind.i64 n_2,AV.int IntKind.i64 n_3,
                     AV.int IntKind.i64 n_4,AV.str s_1,AV.str s_2,AV.int IntKind.i64 n_5,AV.sl ((3:Nat)) es Own.no,AV.opq,AV.opq,
                     AV.opq,AV.opq,AV.opq,AV.opq,AV.opq,AV.opq,AV.opq,AV.opq,AV.opq,AV.opq,AV.opq,AV.opq,AV.opq,AV.opq,
                     AV.opq,AV.opq,AV.opq,AV.opq,AV.opq,AV.opq,AV.opq,AV.opq,AV.opq,AV.opq,AV.opq,AV.opq,AV.opq]) ∧
                 ((n_1 == (1 : Int)) = true →
                   (decide (n≤tick) = true →
                     True ∧
                      KeyIs PI ((30:Nat)) (AV.agg [AV.str s,AV.int IntKind.i64 n_2]) ∧
                       ValIs (AV.bool true) ∧
                        (0:Int)≤(↑(metL tick (List.take x l)).length:Int) ∧
                         (↑(metL tick (List.take x l)).length:Int) < (70368744177664:Int) ∧
                          True ∧
                           KeyIs PI ((9:Nat)) (AV.str s) ∧
                            ValIs (AV.bool true) ∧
                             (0:Int)≤(↑(metL tick (List.take x l)).length:Int) ∧
                              (↑(metL tick (List.take x l)).length:Int) < (70368744177664:Int) ∧
                               ∃ (y:Nat),
                                ValsAre
                                  [AV.int IntKind.i64 tick,AV.sl ((0:Nat)) [] Own.nil,AV.mp ((0:Nat)),
                                   AV.mp ((1:Nat)),AV.sl ((40:Nat)) (ensL l) Own.no,
                                   AV.int IntKind.i64 (↑l.length:Int),
                                   AV.int IntKind.i64 (IntKind.i64.wrap ((↑x:Int) + (1:Int)))]
                                  [AV.int IntKind.i64 tick,AV.sl ((0:Nat)) [] Own.nil,AV.mp ((0:Nat)),
                                   AV.mp ((1:Nat)),AV.sl ((40:Nat)) (ensL l) Own.no,
                                   AV.int IntKind.i64 (↑l.length:Int),AV.int IntKind.i64 (↑y:Int)] ∧
                                 StIs
                                   {
                                    boxes:=
                                     [some
                                       [AV.tup
                                         [AV.int IntKind.i64 (111:Int),
                                          AV.int IntKind.i64
                                           ((↑(metL tick (List.take x l)).length:Int) + (1:Int)),
                                          AV.tup
                                           (keptPutM (idsM (metL tick (List.take x l)))
                                            (AV.agg [AV.str s,AV.int IntKind.i64 n_2]) (AV.bool true))]],
                                      some
                                       [AV.tup
                                         [AV.int IntKind.i64 (112:Int),
                                          AV.int IntKind.i64
                                           ((↑(metL tick (List.take x l)).length:Int) + (1:Int)),
                                          AV.tup
                                           (keptPutM (srcM (metL tick (List.take x l))) (AV.str s)
                                            (AV.bool true))]]],
                                    live:=[] }
                                   {
                                    boxes:=
                                     [some
                                       [AV.tup
                                         [AV.int IntKind.i64 (111:Int),
                                          AV.int IntKind.i64 (↑(metL tick (List.take y l)).length:Int),
                                          AV.tup (idsM (metL tick (List.take y l)))]],
                                      some
                                       [AV.tup
                                         [AV.int IntKind.i64 (112:Int),
                                          AV.int IntKind.i64 (↑(metL tick (List.take y l)).length:Int),
                                          AV.tup (srcM (metL tick (List.take y l)))]]],
                                    live:=[] } ∧
                                  y≤l.length∧l.length - y < l.length - x) ∧
                    (decide (n≤tick) = false →
                     ∃ (y:Nat),
                      ValsAre
                        [AV.int IntKind.i64 tick,AV.sl ((0:Nat)) [] Own.nil,AV.mp ((0:Nat)),AV.mp ((1:Nat)),
                         AV.sl ((40:Nat)) (ensL l) Own.no,AV.int IntKind.i64 (↑l.length:Int),
                         AV.int IntKind.i64 (IntKind.i64.wrap ((↑x:Int) + (1:Int)))]
                        [AV.int IntKind.i64 tick,AV.sl ((0:Nat)) [] Own.nil,AV.mp ((0:Nat)),AV.mp ((1:Nat)),
                         AV.sl ((40:Nat)) (ensL l) Own.no,AV.int IntKind.i64 (↑l.length:Int),AV.int IntKind.i64 (↑y:Int)] ∧
                       StIs
                         {
                          boxes:=
                           [some
                             [AV.tup
                               [AV.int IntKind.i64 (111:Int),AV.int IntKind.i64 (↑(metL tick (List.take x l)).length:Int),
                                AV.tup (idsM (metL tick (List.take x l)))]],
                            some
                             [AV.tup
                               [AV.int IntKind.i64 (112:Int),AV.int IntKind.i64 (↑(metL tick (List.take x l)).length:Int),
                                AV.tup (srcM (metL tick (List.take x l)))]]],
                          live:=[] }
                         {
                          boxes:=
                           [some
                             [AV.tup
                               [AV.int IntKind.i64 (111:Int),AV.int IntKind.i64 (↑(metL tick (List.take y l)).length:Int),
                                AV.tup (idsM (metL tick (List.take y l)))]],
                            some
                             [AV.tup
                               [AV.int IntKind.i64 (112:Int),AV.int IntKind.i64 (↑(metL tick (List.take y l)).length:Int),
                                AV.tup (srcM (metL tick (List.take y l)))]]],
                          live:=[] } ∧
                        y≤l.length∧l.length - y < l.length - x)) ∧
                  ((n_1 == (1:Int)) = false →
                   ∃ (y:Nat),
                    ValsAre
                      [AV.int IntKind.i64 tick,AV.sl ((0:Nat)) [] Own.nil,AV.mp ((0:Nat)),AV.mp ((1:Nat)),
                       AV.sl ((40:Nat)) (ensL l) Own.no,AV.int IntKind.i64 (↑l.length:Int),
                       AV.int IntKind.i64 (IntKind.i64.wrap ((↑x:Int) + (1:Int)))]
                      [AV.int IntKind.i64 tick,AV.sl ((0:Nat)) [] Own.nil,AV.mp ((0:Nat)),AV.mp ((1:Nat)),
                       AV.sl ((40:Nat)) (ensL l) Own.no,AV.int IntKind.i64 (↑l.length:Int),AV.int IntKind.i64 (↑y:Int)] ∧
                     StIs
                       {
                        boxes:=
                         [some
                           [AV.tup
                             [AV.int IntKind.i64 (111:Int),AV.int IntKind.i64 (↑(metL tick (List.take x l)).length:Int),
                              AV.tup (idsM (metL tick (List.take x l)))]],
                          some
                           [AV.tup
                             [AV.int IntKind.i64 (112:Int),AV.int IntKind.i64 (↑(metL tick (List.take x l)).length:Int),
                              AV.tup (srcM (metL tick (List.take x l)))]]],
                        live:=[] }
                       {
                        boxes:=
                         [some
                           [AV.tup
                             [AV.int IntKind.i64 (111:Int),AV.int IntKind.i64 (↑(metL tick (List.take y l)).length:Int),
                              AV.tup (idsM (metL tick (List.take y l)))]],
                          some
                           [AV.tup
                             [AV.int IntKind.i64 (112:Int),AV.int IntKind.i64 (↑(metL tick (List.take y l)).length:Int),
                              AV.tup (srcM (metL tick (List.take y l)))]]],
                        live:=[] } ∧
                      y≤l.length∧l.length - y < l.length - x)) ∧
    (decide ((↑x:Int) < (↑l.length:Int)) = false →
     True ∧
      ((keysM (srcM (metL tick (List.take x l)))).Nodup∧(↑(metL tick (List.take x l)).length:Int)≤(1000000000000:Int)) ∧
       (∃ (y:Nat),
         ValsAre
           [AV.sl ((2:Nat)) [] (Own.tok (0:Nat)),AV.mp ((0:Nat)),
            AV.sl ((1:Nat)) (List.map AV.str (keptSort (keysM (srcM (metL tick (List.take x l)))))) Own.no,
            AV.int IntKind.i64 (↑(List.map AV.str (keptSort (keysM (srcM (metL tick (List.take x l)))))).length:Int),
            AV.int IntKind.i64 (0:Int)]
           [AV.sl ((2:Nat)) (mksL (List.take y (marksM (metL tick l)))) (Own.tok ((0:Nat))),AV.mp ((0:Nat)),
            AV.sl ((1:Nat)) (List.map AV.str (nmsM (metL tick l))) Own.no,AV.int IntKind.i64 (↑(nmsM (metL tick l)).length:Int),
            AV.int IntKind.i64 (↑y:Int)] ∧
          StIs
            {
             boxes:=
              [some
                [AV.tup
                  [AV.int IntKind.i64 (111:Int),AV.int IntKind.i64 (↑(metL tick (List.take x l)).length:Int),
                   AV.tup (idsM (metL tick (List.take x l)))]],
               some
                [AV.tup
                  [AV.int IntKind.i64 (112:Int),AV.int IntKind.i64 (↑(metL tick (List.take x l)).length:Int),
                   AV.tup (srcM (metL tick (List.take x l)))]],
               some [AV.mp ((1:Nat))]],
             live:=[((0:Nat),(93:Nat))] }
            {
             boxes:=
              [some [AV.tup [AV.int IntKind.i64 (111:Int),AV.int IntKind.i64 (↑(metL tick l).length:Int),AV.tup (idsM (metL tick l))]],
               some [AV.tup [AV.int IntKind.i64 (112:Int),AV.int IntKind.i64 (↑(metL tick l).length:Int),AV.tup (srcM (metL tick l))]],
               some [AV.mp ((1:Nat))]],
             live:=[((List.take y (marksM (metL tick l))).length,(93:Nat))] } ∧
           y≤(nmsM (metL tick l)).length∧True) ∧
        ∀ (x:Nat),
         x≤(nmsM (metL tick l)).length →
          (decide ((↑x:Int) < (↑(nmsM (metL tick l)).length:Int)) = true →
            ((0:Int)≤(↑x:Int)∧(↑x:Int) < (↑(List.map AV.str (nmsM (metL tick l))).length:Int)) ∧
             ∃ (s:List UInt8),
              takeAt PI ((9:Nat)) (List.map AV.str (nmsM (metL tick l))) (↑x:Int).toNat ((0:Nat)) = some (AV.str s) ∧
               (∃ (y:St15),
                 ValsAre
                   [AV.sl ((2:Nat)) (mksL (List.take x (marksM (metL tick l)))) (Own.tok ((0:Nat))),AV.mp ((0:Nat)),AV.str s,
                    AV.ptr ((3:Nat)) ((0:Nat)),AV.sl ((1:Nat)) (List.map AV.str (nmsM (metL tick l))) Own.no,
                    AV.int IntKind.i64 (↑(nmsM (metL tick l)).length:Int),AV.int IntKind.i64 (↑x:Int)]
                   [AV.sl ((2:Nat)) (mksL (List.take y.i (marksM (metL tick l)))) (Own.tok ((0:Nat))),AV.mp ((0:Nat)),AV.str y.s,
                    AV.ptr ((3:Nat)) ((0:Nat)),AV.sl ((1:Nat)) (List.map AV.str (nmsM (metL tick l))) Own.no,
                    AV.int IntKind.i64 (↑(nmsM (metL tick l)).length:Int),AV.int IntKind.i64 (↑y.i:Int)] ∧
                  StIs
                    {
                     boxes:=
                      [some
                        [AV.tup
                          [AV.int IntKind.i64 (111:Int),AV.int IntKind.i64 (↑(metL tick l).length:Int),
                           AV.tup (idsM (metL tick l))]],
                       some
                        [AV.tup
                          [AV.int IntKind.i64 (112:Int),AV.int IntKind.i64 (↑(metL tick l).length:Int),
                           AV.tup (srcM (metL tick l))]],
                       some [AV.mp ((1:Nat))],some [AV.str s,AV.int IntKind.i64 (1:Int)]],
                     live:=[((List.take x (marksM (metL tick l))).length,(93:Nat))] }
                    {
                     boxes:=
                      [some
                        [AV.tup
                          [AV.int IntKind.i64 (111:Int),AV.int IntKind.i64 (↑(metL tick l).length:Int),
                           AV.tup (idsM (metL tick l))]],
                       some
                        [AV.tup
                          [AV.int IntKind.i64 (112:Int),AV.int IntKind.i64 (↑(metL tick l).length:Int),
                           AV.tup (srcM (metL tick l))]],
                       some [AV.mp ((1:Nat))],some [AV.str y.s,AV.int IntKind.i64 ((↑y.j:Int) + (1:Int))]],
                     live:=[((List.take y.i (marksM (metL tick l))).length,(93:Nat))] } ∧
                   ((nmsM (metL tick l))[y.i]? = some y.s ∧
                     y.j≤(metL tick l).length ∧
                      (∀ (k:Nat),k < y.j→hasId (metL tick l) y.s ((↑k:Int) + (1:Int)) = true) ∧
                       nextF (hasId (metL tick l) y.s) ((metL tick l).length - y.j) ((↑y.j:Int) + (1:Int)) =
                        nextM (metL tick l) y.s) ∧
                    some (AV.int IntKind.i64 (↑x:Int)) = some (AV.int IntKind.i64 (↑y.i:Int))) ∧
                ∀ (x_1:St15),
                 (nmsM (metL tick l))[x_1.i]? = some x_1.s ∧
                   x_1.j≤(metL tick l).length ∧
                    (∀ (k:Nat),k < x_1.j→hasId (metL tick l) x_1.s ((↑k:Int) + (1:Int)) = true) ∧
                     nextF (hasId (metL tick l) x_1.s) ((metL tick l).length - x_1.j) ((↑x_1.j:Int) + (1:Int)) =
                      nextM (metL tick l) x_1.s →
                  some (AV.int IntKind.i64 (↑x:Int)) = some (AV.int IntKind.i64 (↑x_1.i:Int)) →
                   KeyIs PI ((30:Nat)) (AV.agg [AV.str x_1.s,AV.int IntKind.i64 ((↑x_1.j:Int) + (1:Int))]) ∧
                    ∃ (b:Bool),
                     LookIs (idsM (metL tick l)) (AV.agg [AV.str x_1.s,AV.int IntKind.i64 ((↑x_1.j:Int) + (1:Int))]) (AV.bool false)
                       (AV.bool b) ∧
                      (b = true →
                        ∃ (y:St15),
                         ValsAre
                           [AV.sl ((2:Nat)) (mksL (List.take x_1.i (marksM (metL tick l)))) (Own.tok ((0:Nat))),
                            AV.mp ((0:Nat)),AV.str x_1.s,AV.ptr ((3:Nat)) ((0:Nat)),
                            AV.sl ((1:Nat)) (List.map AV.str (nmsM (metL tick l))) Own.no,
                            AV.int IntKind.i64 (↑(nmsM (metL tick l)).length:Int),AV.int IntKind.i64 (↑x_1.i:Int)]
                           [AV.sl ((2:Nat)) (mksL (List.take y.i (marksM (metL tick l)))) (Own.tok ((0:Nat))),AV.mp ((0:Nat)),
                            AV.str y.s,AV.ptr ((3:Nat)) ((0:Nat)),
                            AV.sl ((1:Nat)) (List.map AV.str (nmsM (metL tick l))) Own.no,
                            AV.int IntKind.i64 (↑(nmsM (metL tick l)).length:Int),AV.int IntKind.i64 (↑y.i:Int)] ∧
                          StIs
                            {
                             boxes:=
                              [some
                                [AV.tup
                                  [AV.int IntKind.i64 (111:Int),AV.int IntKind.i64 (↑(metL tick l).length:Int),
                                   AV.tup (idsM (metL tick l))]],
                               some
                                [AV.tup
                                  [AV.int IntKind.i64 (112:Int),AV.int IntKind.i64 (↑(metL tick l).length:Int),
                                   AV.tup (srcM (metL tick l))]],
                               some [AV.mp ((1:Nat))],
                               some
                                [AV.str x_1.s,AV.int IntKind.i64 (IntKind.i64.wrap ((↑x_1.j:Int) + (1:Int) + (1:Int)))]],
                             live:=[((List.take x_1.i (marksM (metL tick l))).length,(93:Nat))] }
                            {
                             boxes:=
                              [some
                                [AV.tup
                                  [AV.int IntKind.i64 (111:Int),AV.int IntKind.i64 (↑(metL tick l).length:Int),
                                   AV.tup (idsM (metL tick l))]],
                               some
                                [AV.tup
                                  [AV.int IntKind.i64 (112:Int),AV.int IntKind.i64 (↑(metL tick l).length:Int),
                                   AV.tup (srcM (metL tick l))]],
                               some [AV.mp ((1:Nat))],some [AV.str y.s,AV.int IntKind.i64 ((↑y.j:Int) + (1:Int))]],
                             live:=[((List.take y.i (marksM (metL tick l))).length,(93:Nat))] } ∧
                           ((nmsM (metL tick l))[y.i]? = some y.s ∧
                             y.j≤(metL tick l).length ∧
                              (∀ (k:Nat),k < y.j→hasId (metL tick l) y.s ((↑k:Int) + (1:Int)) = true) ∧
                               nextF (hasId (metL tick l) y.s) ((metL tick l).length - y.j) ((↑y.j:Int) + (1:Int)) =
                                nextM (metL tick l) y.s) ∧
                            some (AV.int IntKind.i64 (↑x:Int)) = some (AV.int IntKind.i64 (↑y.i:Int)) ∧
                             (metL tick l).length - y.j < (metL tick l).length - x_1.j) ∧
                       (b = false →
                        ((2:Nat) = (2:Nat)∨mksL (List.take x_1.i (marksM (metL tick l))) = []) ∧
                         ((mksL (List.take x_1.i (marksM (metL tick l)))).length + (1:Nat)) * (25:Nat)≤(70368744177664:Nat) ∧
                          (List.take x_1.i (marksM (metL tick l))).length = (mksL (List.take x_1.i (marksM (metL tick l)))).length ∧
                           ∃ (y:Nat),
                            ValsAre
                              [AV.sl ((2:Nat))
                                (mksL (List.take x_1.i (marksM (metL tick l))) ++
                                 [AV.agg [AV.str x_1.s,AV.int IntKind.i64 ((↑x_1.j:Int) + (1:Int))]])
                                (Own.tok ((0:Nat))),
                               AV.mp ((0:Nat)),AV.sl ((1:Nat)) (List.map AV.str (nmsM (metL tick l))) Own.no,
                               AV.int IntKind.i64 (↑(nmsM (metL tick l)).length:Int),
                               AV.int IntKind.i64 (IntKind.i64.wrap ((↑x_1.i:Int) + (1:Int)))]
                              [AV.sl ((2:Nat)) (mksL (List.take y (marksM (metL tick l)))) (Own.tok ((0:Nat))),
                               AV.mp ((0:Nat)),AV.sl ((1:Nat)) (List.map AV.str (nmsM (metL tick l))) Own.no,
                               AV.int IntKind.i64 (↑(nmsM (metL tick l)).length:Int),AV.int IntKind.i64 (↑y:Int)] ∧
                             StIs
                               {
                                boxes:=
                                 [some
                                   [AV.tup
                                     [AV.int IntKind.i64 (111:Int),AV.int IntKind.i64 (↑(metL tick l).length:Int),
                                      AV.tup (idsM (metL tick l))]],
                                  some
                                   [AV.tup
                                     [AV.int IntKind.i64 (112:Int),AV.int IntKind.i64 (↑(metL tick l).length:Int),
                                      AV.tup (srcM (metL tick l))]],
                                  some [AV.mp ((1:Nat))]],
                                live:=[((mksL (List.take x_1.i (marksM (metL tick l)))).length + (1:Nat),(93:Nat))] }
                               {
                                boxes:=
                                 [some
                                   [AV.tup
                                     [AV.int IntKind.i64 (111:Int),AV.int IntKind.i64 (↑(metL tick l).length:Int),
                                      AV.tup (idsM (metL tick l))]],
                                  some
                                   [AV.tup
                                     [AV.int IntKind.i64 (112:Int),AV.int IntKind.i64 (↑(metL tick l).length:Int),
                                      AV.tup (srcM (metL tick l))]],
                                  some [AV.mp ((1:Nat))]],
                                live:=[((List.take y (marksM (metL tick l))).length,(93:Nat))] } ∧
                              y≤(nmsM (metL tick l)).length ∧
                               (nmsM (metL tick l)).length - y < (nmsM (metL tick l)).length - x)) ∧
           (decide ((↑x:Int) < (↑(nmsM (metL tick l)).length:Int)) = false →
            RetLax (AV.sl ((2:Nat)) (mksL (List.take x (marksM (metL tick l)))) (Own.tok ((0:Nat))))
             (AV.sl ((2:Nat)) (mksL (marksM (metL tick l))) Own.no,[])))):=by kernel_rfl
theorem w16 (m:Int) (l:List EnI) (tick:Int):(laxW PI (GI m) XMa (tbl [(42,s42)]) (itbl []) (a16 l tick) [] 16 [.sl 40 (ensL l) .no,.int .i64 tick] (.sl 2 (mksL (marksM (metL tick l))) .no,[])) =
((∃ (y:Nat),
    ValsAre [AV.sl ((40:Nat)) (ensL l) Own.no,AV.int IntKind.i64 tick,AV.sl ((2:Nat)) [] Own.no,AV.int IntKind.i64 (0:Int)]
        [AV.sl ((40:Nat)) (ensL l) Own.no,AV.int IntKind.i64 tick,AV.sl ((2:Nat)) (mksL (outR l tick y)) Own.no,AV.int IntKind.i64 (↑y:Int)] ∧
      StIs { boxes:=[],live:=[] } { boxes:=[],live:=[] }∧y≤l.length∧True) ∧
  ∀ (x:Nat),
    x≤l.length →
      (decide ((↑x:Int) < (↑(ensL l).length:Int)) = true →
          ((0 : Int) ≤ (↑x : Int) ∧ (↑x : Int) < (↑(ensL l).length : Int)) ∧
            ∃ (n:Int),
              takeAt PI ((3:Nat)) (ensL l) (↑x:Int).toNat ((2:Nat)) = some (AV.int IntKind.i64 n) ∧
                ((n != (1:Int)) = true →
                    ∃ (y:Nat),
                      ValsAre
                          [AV.sl ((40:Nat)) (ensL l) Own.no,AV.int IntKind.i64 tick,AV.sl ((2:Nat)) (mksL (outR l tick x)) Own.no,
                            AV.int IntKind.i64 (IntKind.i64.wrap ((↑x:Int) + (1:Int)))]
                          [AV.sl ((40:Nat)) (ensL l) Own.no,AV.int IntKind.i64 tick,AV.sl ((2:Nat)) (mksL (outR l tick y)) Own.no,
                            AV.int IntKind.i64 (↑y:Int)] ∧
                        StIs { boxes:=[],live:=[] } { boxes:=[],live:=[] }∧y≤l.length∧l.length - y < l.length - x) ∧
                  ((n != (1 : Int)) = false →
                    ((0 : Int) ≤ (↑x : Int) ∧ (↑x : Int) < (↑(ensL l).length : Int)) ∧
                      ∃ (n:Int),
                        takeAt PI ((3:Nat)) (ensL l) (↑x:Int).toNat ((1:Nat)) = some (AV.int IntKind.i64 n) ∧
                          (decide (n > tick) = true →
                              ∃ (y:Nat),
                                ValsAre
                                    [AV.sl ((40:Nat)) (ensL l) Own.no,AV.int IntKind.i64 tick,AV.sl ((2:Nat)) (mksL (outR l tick x)) Own.no,
                                      AV.int IntKind.i64 (IntKind.i64.wrap ((↑x:Int) + (1:Int)))]
                                    [AV.sl ((40:Nat)) (ensL l) Own.no,AV.int IntKind.i64 tick,AV.sl ((2:Nat)) (mksL (outR l tick y)) Own.no,
                                      AV.int IntKind.i64 (↑y:Int)] ∧
                                  StIs { boxes:=[],live:=[] } { boxes:=[],live:=[] }∧y≤l.length∧l.length - y < l.length - x) ∧
                            (decide (n > tick) = false →
                              ((0 : Int) ≤ (↑x : Int) ∧ (↑x : Int) < (↑(ensL l).length : Int)) ∧
                                ∃ (s:List UInt8),
                                  takeAt PI ((9:Nat)) (ensL l) (↑x:Int).toNat ((3:Nat)) = some (AV.str s) ∧
                                    ((∃ (y:St16),
                                          ValsAre
                                              [AV.sl ((40:Nat)) (ensL l) Own.no,AV.int IntKind.i64 tick,AV.sl ((2:Nat)) (mksL (outR l tick x)) Own.no,
                                                AV.int IntKind.i64 (↑x:Int),AV.ptr ((0:Nat)) ((0:Nat)),AV.int IntKind.i64 (0:Int)]
                                              [AV.sl ((40:Nat)) (ensL l) Own.no,AV.int IntKind.i64 tick,AV.sl ((2:Nat)) (mksL (outR l tick y.i)) Own.no,
                                                AV.int IntKind.i64 (↑y.i:Int),AV.ptr ((0:Nat)) ((0:Nat)),AV.int IntKind.i64 (↑y.at_:Int)] ∧
                                            StIs { boxes:=[some [AV.str s,AV.int IntKind.i64 (1:Int)]],live:=[] }
                                                { boxes:=[some [AV.str y.s,AV.int IntKind.i64 (1:Int)]],live:=[] } ∧
                                              (y.i < l.length ∧
                                                  (∃ (e:EnI),l[y.i]? = some e∧relB tick e = true∧e.f.src = y.s) ∧
                                                    y.at_ ≤
                                                      (List.takeWhile (fun (a:List UInt8)=>Op.bytesLess a y.s)
                                                          (nmsR (metL tick (List.take y.i l)))).length) ∧
                                                some (AV.int IntKind.i64 (↑x:Int)) = some (AV.int IntKind.i64 (↑y.i:Int))) ∧
                                        ∀ (x_1:St16),
                                          x_1.i < l.length ∧
                                              (∃ (e:EnI),l[x_1.i]? = some e∧relB tick e = true∧e.f.src = x_1.s) ∧
                                                x_1.at_ ≤
                                                  (List.takeWhile (fun (a:List UInt8)=>Op.bytesLess a x_1.s)
                                                      (nmsR (metL tick (List.take x_1.i l)))).length →
                                            some (AV.int IntKind.i64 (↑x:Int)) = some (AV.int IntKind.i64 (↑x_1.i:Int)) →
                                              (decide ((↑x_1.at_:Int) < (↑(mksL (outR l tick x_1.i)).length:Int)) = true →
                                                  ((0 : Int) ≤ (↑x_1.at_ : Int) ∧ (↑x_1.at_ : Int) < (↑(mksL (outR l tick x_1.i)).length : Int)) ∧
                                                    ∃ (s:List UInt8),
                                                      takeAt PI ((9:Nat)) (mksL (outR l tick x_1.i)) (↑x_1.at_:Int).toNat ((0:Nat)) = some (AV.str s) ∧
                                                        (Op.bytesLess s x_1.s = true →
                                                            ∃ (y:St16),
                                                              ValsAre
                                                                  [AV.sl ((40:Nat)) (ensL l) Own.no,AV.int IntKind.i64 tick,
                                                                    AV.sl ((2:Nat)) (mksL (outR l tick x_1.i)) Own.no,AV.int IntKind.i64 (↑x_1.i:Int),
                                                                    AV.ptr ((0:Nat)) ((0:Nat)),
                                                                    AV.int IntKind.i64 (IntKind.i64.wrap ((↑x_1.at_:Int) + (1:Int)))]
                                                                  [AV.sl ((40:Nat)) (ensL l) Own.no,AV.int IntKind.i64 tick,
                                                                    AV.sl ((2:Nat)) (mksL (outR l tick y.i)) Own.no,AV.int IntKind.i64 (↑y.i:Int),
                                                                    AV.ptr ((0:Nat)) ((0:Nat)),AV.int IntKind.i64 (↑y.at_:Int)] ∧
                                                                StIs { boxes:=[some [AV.str x_1.s,AV.int IntKind.i64 (1:Int)]],live:=[] }
                                                                    { boxes:=[some [AV.str y.s,AV.int IntKind.i64 (1:Int)]],live:=[] } ∧
                                                                  (y.i < l.length ∧
                                                                      (∃ (e:EnI),l[y.i]? = some e∧relB tick e = true∧e.f.src = y.s) ∧
                                                                        y.at_ ≤
                                                                          (List.takeWhile (fun (a:List UInt8)=>Op.bytesLess a y.s)
                                                                              (nmsR (metL tick (List.take y.i l)))).length) ∧
                                                                    some (AV.int IntKind.i64 (↑x:Int)) = some (AV.int IntKind.i64 (↑y.i:Int)) ∧
                                                                      (outR l tick y.i).length - y.at_ < (outR l tick x_1.i).length - x_1.at_) ∧
                                                          (Op.bytesLess s x_1.s = false →
                                                            ∃ (y:St16),
                                                              ValsAre
                                                                  [AV.sl ((40:Nat)) (ensL l) Own.no,AV.int IntKind.i64 tick,
                                                                    AV.sl ((2:Nat)) (mksL (outR l tick x_1.i)) Own.no,AV.int IntKind.i64 (↑x_1.i:Int),
                                                                    AV.ptr ((0:Nat)) ((0:Nat)),AV.int IntKind.i64 (↑x_1.at_:Int)]
                                                                  [AV.sl ((40:Nat)) (ensL l) Own.no,AV.int IntKind.i64 tick,
                                                                    AV.sl ((2:Nat)) (mksL (outR l tick y.i)) Own.no,AV.int IntKind.i64 (↑y.i:Int),
                                                                    AV.ptr ((0:Nat)) ((0:Nat)),AV.int IntKind.i64 (↑y.at_:Int)] ∧
                                                                StIs { boxes:=[some [AV.str x_1.s,AV.int IntKind.i64 (1:Int)]],live:=[] }
                                                                    { boxes:=[some [AV.str y.s,AV.int IntKind.i64 (1:Int)]],live:=[] } ∧
                                                                  (y.i < l.length ∧
                                                                      (∃ (e:EnI),l[y.i]? = some e∧relB tick e = true∧e.f.src = y.s) ∧
                                                                        y.at_ =
                                                                          (List.takeWhile (fun (a:List UInt8)=>Op.bytesLess a y.s)
                                                                              (nmsR (metL tick (List.take y.i l)))).length) ∧
                                                                    some (AV.int IntKind.i64 (↑x:Int)) = some (AV.int IntKind.i64 (↑y.i:Int)))) ∧
                                                (decide ((↑x_1.at_:Int) < (↑(mksL (outR l tick x_1.i)).length:Int)) = false →
                                                  ∃ (y:St16),
                                                    ValsAre
                                                        [AV.sl ((40:Nat)) (ensL l) Own.no,AV.int IntKind.i64 tick,
                                                          AV.sl ((2:Nat)) (mksL (outR l tick x_1.i)) Own.no,AV.int IntKind.i64 (↑x_1.i:Int),
                                                          AV.ptr ((0:Nat)) ((0:Nat)),AV.int IntKind.i64 (↑x_1.at_:Int)]
                                                        [AV.sl ((40:Nat)) (ensL l) Own.no,AV.int IntKind.i64 tick,
                                                          AV.sl ((2:Nat)) (mksL (outR l tick y.i)) Own.no,AV.int IntKind.i64 (↑y.i:Int),
                                                          AV.ptr ((0:Nat)) ((0:Nat)),AV.int IntKind.i64 (↑y.at_:Int)] ∧
                                                      StIs { boxes:=[some [AV.str x_1.s,AV.int IntKind.i64 (1:Int)]],live:=[] }
                                                          { boxes:=[some [AV.str y.s,AV.int IntKind.i64 (1:Int)]],live:=[] } ∧
                                                        (y.i < l.length ∧
                                                            (∃ (e:EnI),l[y.i]? = some e∧relB tick e = true∧e.f.src = y.s) ∧
                                                              y.at_ =
                                                                (List.takeWhile (fun (a:List UInt8)=>Op.bytesLess a y.s)
                                                                    (nmsR (metL tick (List.take y.i l)))).length) ∧
                                                          some (AV.int IntKind.i64 (↑x:Int)) = some (AV.int IntKind.i64 (↑y.i:Int)))) ∧
                                      ∀ (x_1:St16),
                                        x_1.i < l.length ∧
                                            (∃ (e:EnI),l[x_1.i]? = some e∧relB tick e = true∧e.f.src = x_1.s) ∧
                                              x_1.at_ =
                                                (List.takeWhile (fun (a:List UInt8)=>Op.bytesLess a x_1.s) (nmsR (metL tick (List.take x_1.i l)))).length →
                                          some (AV.int IntKind.i64 (↑x:Int)) = some (AV.int IntKind.i64 (↑x_1.i:Int)) →
                                            ((decide ((↑x_1.at_:Int) < (↑(mksL (outR l tick x_1.i)).length:Int)) = true →
                                                  ((0 : Int) ≤ (↑x_1.at_ : Int) ∧ (↑x_1.at_ : Int) < (↑(mksL (outR l tick x_1.i)).length : Int)) ∧
                                                    ∃ (s:List UInt8),
                                                      takeAt PI ((9:Nat)) (mksL (outR l tick x_1.i)) (↑x_1.at_:Int).toNat ((0:Nat)) = some (AV.str s) ∧
                                                        ((s == x_1.s) = true →
                                                            ∃ (y:Nat),
                                                              ValsAre
                                                                  [AV.sl ((40:Nat)) (ensL l) Own.no,AV.int IntKind.i64 tick,
                                                                    AV.sl ((2:Nat)) (mksL (outR l tick x_1.i)) Own.no,
                                                                    AV.int IntKind.i64 (IntKind.i64.wrap ((↑x_1.i:Int) + (1:Int)))]
                                                                  [AV.sl ((40:Nat)) (ensL l) Own.no,AV.int IntKind.i64 tick,
                                                                    AV.sl ((2:Nat)) (mksL (outR l tick y)) Own.no,AV.int IntKind.i64 (↑y:Int)] ∧
                                                                StIs { boxes:=[],live:=[] } { boxes:=[],live:=[] } ∧
                                                                  y≤l.length∧l.length - y < l.length - x) ∧
                                                          ((s == x_1.s) = false →
                                                            ∃ (y:St16),
                                                              ValsAre
                                                                  [AV.sl ((40:Nat)) (ensL l) Own.no,AV.int IntKind.i64 tick,
                                                                    AV.sl ((2:Nat)) (mksL (outR l tick x_1.i)) Own.no,AV.int IntKind.i64 (↑x_1.i:Int),
                                                                    AV.ptr ((0:Nat)) ((0:Nat)),AV.int IntKind.i64 (↑x_1.at_:Int)]
                                                                  [AV.sl ((40:Nat)) (ensL l) Own.no,AV.int IntKind.i64 tick,
                                                                    AV.sl ((2:Nat)) (mksL (outR l tick y.i)) Own.no,AV.int IntKind.i64 (↑y.i:Int),
                                                                    AV.ptr ((0:Nat)) ((0:Nat)),AV.int IntKind.i64 (↑y.at_:Int)] ∧
                                                                StIs { boxes:=[some [AV.str x_1.s,AV.int IntKind.i64 (1:Int)]],live:=[] }
                                                                    { boxes:=[some [AV.str y.s,AV.int IntKind.i64 (1:Int)]],live:=[] } ∧
                                                                  (y.i < l.length ∧
                                                                      (∃ (e:EnI),l[y.i]? = some e∧relB tick e = true∧e.f.src = y.s) ∧
                                                                        y.at_ =
                                                                            (List.takeWhile (fun (a:List UInt8)=>Op.bytesLess a y.s)
                                                                                (nmsR (metL tick (List.take y.i l)))).length ∧
                                                                          (nmsR (metL tick (List.take y.i l)))[y.at_]? ≠ some y.s) ∧
                                                                    some (AV.int IntKind.i64 (↑x_1.i:Int)) = some (AV.int IntKind.i64 (↑y.i:Int)))) ∧
                                                (decide ((↑x_1.at_:Int) < (↑(mksL (outR l tick x_1.i)).length:Int)) = false →
                                                  ∃ (y:St16),
                                                    ValsAre
                                                        [AV.sl ((40:Nat)) (ensL l) Own.no,AV.int IntKind.i64 tick,
                                                          AV.sl ((2:Nat)) (mksL (outR l tick x_1.i)) Own.no,AV.int IntKind.i64 (↑x_1.i:Int),
                                                          AV.ptr ((0:Nat)) ((0:Nat)),AV.int IntKind.i64 (↑x_1.at_:Int)]
                                                        [AV.sl ((40:Nat)) (ensL l) Own.no,AV.int IntKind.i64 tick,
                                                          AV.sl ((2:Nat)) (mksL (outR l tick y.i)) Own.no,AV.int IntKind.i64 (↑y.i:Int),
                                                          AV.ptr ((0:Nat)) ((0:Nat)),AV.int IntKind.i64 (↑y.at_:Int)] ∧
                                                      StIs { boxes:=[some [AV.str x_1.s,AV.int IntKind.i64 (1:Int)]],live:=[] }
                                                          { boxes:=[some [AV.str y.s,AV.int IntKind.i64 (1:Int)]],live:=[] } ∧
                                                        (y.i < l.length ∧
                                                            (∃ (e:EnI),l[y.i]? = some e∧relB tick e = true∧e.f.src = y.s) ∧
                                                              y.at_ =
                                                                  (List.takeWhile (fun (a:List UInt8)=>Op.bytesLess a y.s)
                                                                      (nmsR (metL tick (List.take y.i l)))).length ∧
                                                                (nmsR (metL tick (List.take y.i l)))[y.at_]? ≠ some y.s) ∧
                                                          some (AV.int IntKind.i64 (↑x_1.i:Int)) = some (AV.int IntKind.i64 (↑y.i:Int)))) ∧
                                              ∀ (x_2:St16),
                                                x_2.i < l.length ∧
                                                    (∃ (e:EnI),l[x_2.i]? = some e∧relB tick e = true∧e.f.src = x_2.s) ∧
                                                      x_2.at_ =
                                                          (List.takeWhile (fun (a:List UInt8)=>Op.bytesLess a x_2.s)
                                                              (nmsR (metL tick (List.take x_2.i l)))).length ∧
                                                        (nmsR (metL tick (List.take x_2.i l)))[x_2.at_]? ≠ some x_2.s →
                                                  some (AV.int IntKind.i64 (↑x_1.i:Int)) = some (AV.int IntKind.i64 (↑x_2.i:Int)) →
                                                    (∃ (y : St16),
                                                        ValsAre
                                                            [AV.sl ((40:Nat)) (ensL l) Own.no,AV.int IntKind.i64 tick,
                                                              AV.sl ((2:Nat)) (mksL (outR l tick x_2.i)) Own.no,AV.int IntKind.i64 (↑x_2.i:Int),
                                                              AV.ptr ((0:Nat)) ((0:Nat)),AV.int IntKind.i64 (↑x_2.at_:Int)]
                                                            [AV.sl ((40:Nat)) (ensL l) Own.no,AV.int IntKind.i64 tick,
                                                              AV.sl ((2:Nat)) (mksL (outR l tick y.i)) Own.no,AV.int IntKind.i64 (↑y.i:Int),
                                                              AV.ptr ((0:Nat)) ((0:Nat)),AV.int IntKind.i64 (↑y.at_:Int)] ∧
                                                          StIs { boxes:=[some [AV.str x_2.s,AV.int IntKind.i64 (1:Int)]],live:=[] }
                                                              { boxes:=[some [AV.str y.s,AV.int IntKind.i64 ((↑y.j:Int) + (1:Int))]],live:=[] } ∧
                                                            (y.i < l.length ∧
                                                                (∃ (e:EnI),l[y.i]? = some e∧relB tick e = true∧e.f.src = y.s) ∧
                                                                  y.at_ =
                                                                      (List.takeWhile (fun (a:List UInt8)=>Op.bytesLess a y.s)
                                                                          (nmsR (metL tick (List.take y.i l)))).length ∧
                                                                    (nmsR (metL tick (List.take y.i l)))[y.at_]? ≠ some y.s ∧
                                                                      y.j≤(metL tick l).length ∧
                                                                        (∀ (k:Nat),k < y.j→hasId (metL tick l) y.s ((↑k:Int) + (1:Int)) = true) ∧
                                                                          nextF (hasId (metL tick l) y.s) ((metL tick l).length - y.j)
                                                                              ((↑y.j:Int) + (1:Int)) =
                                                                            nextM (metL tick l) y.s) ∧
                                                              some (AV.int IntKind.i64 (↑x_2.i:Int)) = some (AV.int IntKind.i64 (↑y.i:Int))) ∧
                                                      ∀ (x_3:St16),
                                                        x_3.i < l.length ∧
                                                            (∃ (e:EnI),l[x_3.i]? = some e∧relB tick e = true∧e.f.src = x_3.s) ∧
                                                              x_3.at_ =
                                                                  (List.takeWhile (fun (a:List UInt8)=>Op.bytesLess a x_3.s)
                                                                      (nmsR (metL tick (List.take x_3.i l)))).length ∧
                                                                (nmsR (metL tick (List.take x_3.i l)))[x_3.at_]? ≠ some x_3.s ∧
                                                                  x_3.j≤(metL tick l).length ∧
                                                                    (∀ (k:Nat),k < x_3.j→hasId (metL tick l) x_3.s ((↑k:Int) + (1:Int)) = true) ∧
                                                                      nextF (hasId (metL tick l) x_3.s) ((metL tick l).length - x_3.j)
                                                                          ((↑x_3.j:Int) + (1:Int)) =
                                                                        nextM (metL tick l) x_3.s →
                                                          some (AV.int IntKind.i64 (↑x_2.i:Int)) = some (AV.int IntKind.i64 (↑x_3.i:Int)) →
                                                            ∃ (b:Bool),
                                                              CallIs
                                                                  (tbl [((42:Nat),s42)] ((42:Nat))
                                                                    [AV.sl ((40:Nat)) (ensL l) Own.no,AV.int IntKind.i64 tick,
                                                                      AV.agg [AV.str x_3.s,AV.int IntKind.i64 ((↑x_3.j:Int) + (1:Int))]])
                                                                  (AV.bool b) [] ∧
                                                                (b = true →
                                                                    ∃ (y:St16),
                                                                      ValsAre
                                                                          [AV.sl ((40:Nat)) (ensL l) Own.no,AV.int IntKind.i64 tick,
                                                                            AV.sl ((2:Nat)) (mksL (outR l tick x_3.i)) Own.no,
                                                                            AV.int IntKind.i64 (↑x_3.i:Int),AV.ptr ((0:Nat)) ((0:Nat)),
                                                                            AV.int IntKind.i64 (↑x_3.at_:Int)]
                                                                          [AV.sl ((40:Nat)) (ensL l) Own.no,AV.int IntKind.i64 tick,
                                                                            AV.sl ((2:Nat)) (mksL (outR l tick y.i)) Own.no,AV.int IntKind.i64 (↑y.i:Int),
                                                                            AV.ptr ((0:Nat)) ((0:Nat)),AV.int IntKind.i64 (↑y.at_:Int)] ∧
                                                                        StIs
                                                                            {
                                                                              boxes:=
                                                                                [some
                                                                                    [AV.str x_3.s,
                                                                                      AV.int IntKind.i64
                                                                                        (IntKind.i64.wrap ((↑x_3.j:Int) + (1:Int) + (1:Int)))]],
                                                                              live:=[] }
                                                                            { boxes:=[some [AV.str y.s,AV.int IntKind.i64 ((↑y.j:Int) + (1:Int))]],
                                                                              live:=[] } ∧
                                                                          (y.i < l.length ∧
                                                                              (∃ (e:EnI),l[y.i]? = some e∧relB tick e = true∧e.f.src = y.s) ∧
                                                                                y.at_ =
                                                                                    (List.takeWhile (fun (a:List UInt8)=>Op.bytesLess a y.s)
                                                                                        (nmsR (metL tick (List.take y.i l)))).length ∧
                                                                                  (nmsR (metL tick (List.take y.i l)))[y.at_]? ≠ some y.s ∧
                                                                                    y.j≤(metL tick l).length ∧
                                                                                      (∀ (k : Nat),
                                                                                          k < y.j→hasId (metL tick l) y.s ((↑k:Int) + (1:Int)) = true) ∧
                                                                                        nextF (hasId (metL tick l) y.s) ((metL tick l).length - y.j)
                                                                                            ((↑y.j:Int) + (1:Int)) =
                                                                                          nextM (metL tick l) y.s) ∧
                                                                            some (AV.int IntKind.i64 (↑x_2.i:Int)) = some (AV.int IntKind.i64 (↑y.i:Int)) ∧
                                                                              (metL tick l).length - y.j < (metL tick l).length - x_3.j) ∧
                                                                  (b = false →
                                                                    (0:Int)≤(↑x_3.at_:Int) ∧
                                                                      ((↑x_3.at_:Int).toNat≤(mksL (outR l tick x_3.i)).length ∧
                                                                          (mksL (outR l tick x_3.i)).length≤(mksL (outR l tick x_3.i)).length) ∧
                                                                        ((2 : Nat) = (2 : Nat) ∨ mksL (outR l tick x_3.i) = []) ∧
                                                                          ((2:Nat) = (2:Nat) ∨
                                                                              [AV.agg [AV.str x_3.s,AV.int IntKind.i64 ((↑x_3.j:Int) + (1:Int))]] = []) ∧
                                                                            ((1:Nat) +
                                                                                    (List.drop (↑x_3.at_:Int).toNat
                                                                                        (List.take (mksL (outR l tick x_3.i)).length
                                                                                          (mksL (outR l tick x_3.i)))).length) *
                                                                                  (25:Nat) ≤
                                                                                (70368744177664:Nat) ∧
                                                                              (List.drop (↑x_3.at_:Int).toNat
                                                                                      (List.take (mksL (outR l tick x_3.i)).length (mksL (outR l tick x_3.i))) =
                                                                                    [] →
                                                                                  (0:Int)≤(↑x_3.at_:Int) ∧
                                                                                    ((0:Nat)≤(↑x_3.at_:Int).toNat ∧
                                                                                        (↑x_3.at_:Int).toNat≤(mksL (outR l tick x_3.i)).length) ∧
                                                                                      ((2 : Nat) = (2 : Nat) ∨ mksL (outR l tick x_3.i) = []) ∧
                                                                                        ((2 : Nat) = (2 : Nat) ∨ ([] : List AV) = []) ∧
                                                                                          ((0:Nat) +
                                                                                                  (List.drop ((0:Nat))
                                                                                                      (List.take (↑x_3.at_:Int).toNat
                                                                                                        (mksL (outR l tick x_3.i)))).length) *
                                                                                                (25:Nat) ≤
                                                                                              (70368744177664:Nat) ∧
                                                                                            (List.drop ((0:Nat))
                                                                                                    (List.take (↑x_3.at_:Int).toNat
                                                                                                      (mksL (outR l tick x_3.i))) =
                                                                                                  [] →
                                                                                                ((2 : Nat) = (2 : Nat) ∨ ([] : List AV) = []) ∧
                                                                                                  ((0:Nat) + (1:Nat)) * (25:Nat) ≤
                                                                                                      (70368744177664:Nat) ∧
                                                                                                    ∃ (y:Nat),
                                                                                                      ValsAre
                                                                                                          [AV.sl ((40:Nat)) (ensL l) Own.no,
                                                                                                            AV.int IntKind.i64 tick,
                                                                                                            AV.sl ((2:Nat))
                                                                                                              [AV.agg
                                                                                                                  [AV.str x_3.s,
                                                                                                                    AV.int IntKind.i64
                                                                                                                      ((↑x_3.j:Int) + (1:Int))]]
                                                                                                              Own.no,
                                                                                                            AV.int IntKind.i64
                                                                                                              (IntKind.i64.wrap ((↑x_3.i:Int) + (1:Int)))]
                                                                                                          [AV.sl ((40:Nat)) (ensL l) Own.no,
                                                                                                            AV.int IntKind.i64 tick,
                                                                                                            AV.sl ((2:Nat)) (mksL (outR l tick y)) Own.no,
                                                                                                            AV.int IntKind.i64 (↑y:Int)] ∧
                                                                                                        StIs { boxes:=[],live:=[] }
                                                                                                            { boxes:=[],live:=[] } ∧
                                                                                                          y≤l.length∧l.length - y < l.length - x) ∧
                                                                                              (List.drop ((0:Nat))
                                                                                                    (List.take (↑x_3.at_:Int).toNat
                                                                                                      (mksL (outR l tick x_3.i))) ≠
                                                                                                  [] →
                                                                                                ((2:Nat) = (2:Nat) ∨
                                                                                                    [] ++
                                                                                                        List.drop ((0:Nat))
                                                                                                          (List.take (↑x_3.at_:Int).toNat
                                                                                                            (mksL (outR l tick x_3.i))) =
                                                                                                      []) ∧
                                                                                                  (([] ++
                                                                                                              List.drop ((0:Nat))
                                                                                                                (List.take (↑x_3.at_:Int).toNat
                                                                                                                  (mksL (outR l tick x_3.i)))).length +
                                                                                                          (1:Nat)) *
                                                                                                        (25:Nat) ≤
                                                                                                      (70368744177664:Nat) ∧
                                                                                                    (0:Nat) +
                                                                                                          (List.drop ((0:Nat))
                                                                                                              (List.take (↑x_3.at_:Int).toNat
                                                                                                                (mksL (outR l tick x_3.i)))).length =
                                                                                                        ([] ++
                                                                                                            List.drop ((0:Nat))
                                                                                                              (List.take (↑x_3.at_:Int).toNat
                                                                                                                (mksL (outR l tick x_3.i)))).length ∧
                                                                                                      ∃ (y:Nat),
                                                                                                        ValsAre
                                                                                                            [AV.sl ((40:Nat)) (ensL l) Own.no,
                                                                                                              AV.int IntKind.i64 tick,
                                                                                                              AV.sl ((2:Nat))
                                                                                                                ([] ++
                                                                                                                    List.drop ((0:Nat))
                                                                                                                      (List.take (↑x_3.at_:Int).toNat
                                                                                                                        (mksL (outR l tick x_3.i))) ++
                                                                                                                  [AV.agg
                                                                                                                      [AV.str x_3.s,
                                                                                                                        AV.int IntKind.i64
                                                                                                                          ((↑x_3.j:Int) + (1:Int))]])
                                                                                                                Own.no,
                                                                                                              AV.int IntKind.i64
                                                                                                                (IntKind.i64.wrap ((↑x_3.i:Int) + (1:Int)))]
                                                                                                            [AV.sl ((40:Nat)) (ensL l) Own.no,
                                                                                                              AV.int IntKind.i64 tick,
                                                                                                              AV.sl ((2:Nat)) (mksL (outR l tick y)) Own.no,
                                                                                                              AV.int IntKind.i64 (↑y:Int)] ∧
                                                                                                          StIs { boxes:=[],live:=[] }
                                                                                                              { boxes:=[],live:=[] } ∧
                                                                                                            y≤l.length∧l.length - y < l.length - x)) ∧
                                                                                (List.drop (↑x_3.at_:Int).toNat
                                                                                      (List.take (mksL (outR l tick x_3.i)).length (mksL (outR l tick x_3.i))) ≠
                                                                                    [] →
                                                                                  (0:Int)≤(↑x_3.at_:Int) ∧
                                                                                    ((0:Nat)≤(↑x_3.at_:Int).toNat ∧
                                                                                        (↑x_3.at_:Int).toNat≤(mksL (outR l tick x_3.i)).length) ∧
                                                                                      ((2 : Nat) = (2 : Nat) ∨ mksL (outR l tick x_3.i) = []) ∧
                                                                                        ((2 : Nat) = (2 : Nat) ∨ ([] : List AV) = []) ∧
                                                                                          ((0:Nat) +
                                                                                                  (List.drop ((0:Nat))
                                                                                                      (List.take (↑x_3.at_:Int).toNat
                                                                                                        (mksL (outR l tick x_3.i)))).length) *
                                                                                                (25:Nat) ≤
                                                                                              (70368744177664:Nat) ∧
                                                                                            (List.drop ((0:Nat))
                                                                                                    (List.take (↑x_3.at_:Int).toNat
                                                                                                      (mksL (outR l tick x_3.i))) =
                                                                                                  [] →
                                                                                                ((2 : Nat) = (2 : Nat) ∨ ([] : List AV) = []) ∧
                                                                                                  ((0:Nat) +
                                                                                                          ([AV.agg
                                                                                                                  [AV.str x_3.s,
                                                                                                                    AV.int IntKind.i64
                                                                                                                      ((↑x_3.j:Int) + (1:Int))]] ++
                                                                                                              List.drop (↑x_3.at_:Int).toNat
                                                                                                                (List.take (mksL (outR l tick x_3.i)).length
                                                                                                                  (mksL (outR l tick x_3.i)))).length) *
                                                                                                        (25:Nat) ≤
                                                                                                      (70368744177664:Nat) ∧
                                                                                                    ([AV.agg
                                                                                                                [AV.str x_3.s,
                                                                                                                  AV.int IntKind.i64
                                                                                                                    ((↑x_3.j:Int) + (1:Int))]] ++
                                                                                                            List.drop (↑x_3.at_:Int).toNat
                                                                                                              (List.take (mksL (outR l tick x_3.i)).length
                                                                                                                (mksL (outR l tick x_3.i))) =
                                                                                                          [] →
                                                                                                        ∃ (y:Nat),
                                                                                                          ValsAre
                                                                                                              [AV.sl ((40:Nat)) (ensL l) Own.no,
                                                                                                                AV.int IntKind.i64 tick,
                                                                                                                AV.sl ((2:Nat)) [] Own.full,
                                                                                                                AV.int IntKind.i64
                                                                                                                  (IntKind.i64.wrap
                                                                                                                    ((↑x_3.i:Int) + (1:Int)))]
                                                                                                              [AV.sl ((40:Nat)) (ensL l) Own.no,
                                                                                                                AV.int IntKind.i64 tick,
                                                                                                                AV.sl ((2:Nat)) (mksL (outR l tick y)) Own.no,
                                                                                                                AV.int IntKind.i64 (↑y:Int)] ∧
                                                                                                            StIs { boxes:=[],live:=[] }
                                                                                                                { boxes:=[],live:=[] } ∧
                                                                                                              y≤l.length∧l.length - y < l.length - x) ∧
                                                                                                      ([AV.agg
                                                                                                                [AV.str x_3.s,
                                                                                                                  AV.int IntKind.i64
                                                                                                                    ((↑x_3.j:Int) + (1:Int))]] ++
                                                                                                            List.drop (↑x_3.at_:Int).toNat
                                                                                                              (List.take (mksL (outR l tick x_3.i)).length
                                                                                                                (mksL (outR l tick x_3.i))) ≠
                                                                                                          [] →
                                                                                                        ∃ (y:Nat),
                                                                                                          ValsAre
                                                                                                              [AV.sl ((40:Nat)) (ensL l) Own.no,
                                                                                                                AV.int IntKind.i64 tick,
                                                                                                                AV.sl ((2:Nat))
                                                                                                                  ([] ++
                                                                                                                    ([AV.agg
                                                                                                                          [AV.str x_3.s,
                                                                                                                            AV.int IntKind.i64
                                                                                                                              ((↑x_3.j:Int) + (1:Int))]] ++
                                                                                                                      List.drop (↑x_3.at_:Int).toNat
                                                                                                                        (List.take
                                                                                                                          (mksL (outR l tick x_3.i)).length
                                                                                                                          (mksL (outR l tick x_3.i)))))
                                                                                                                  Own.no,
                                                                                                                AV.int IntKind.i64
                                                                                                                  (IntKind.i64.wrap
                                                                                                                    ((↑x_3.i:Int) + (1:Int)))]
                                                                                                              [AV.sl ((40:Nat)) (ensL l) Own.no,
                                                                                                                AV.int IntKind.i64 tick,
                                                                                                                AV.sl ((2:Nat)) (mksL (outR l tick y)) Own.no,
                                                                                                                AV.int IntKind.i64 (↑y:Int)] ∧
                                                                                                            StIs { boxes:=[],live:=[] }
                                                                                                                { boxes:=[],live:=[] } ∧
                                                                                                              y≤l.length∧l.length - y < l.length - x)) ∧
                                                                                              (List.drop ((0:Nat))
                                                                                                    (List.take (↑x_3.at_:Int).toNat
                                                                                                      (mksL (outR l tick x_3.i))) ≠
                                                                                                  [] →
                                                                                                ((2:Nat) = (2:Nat) ∨
                                                                                                    [] ++
                                                                                                        List.drop ((0:Nat))
                                                                                                          (List.take (↑x_3.at_:Int).toNat
                                                                                                            (mksL (outR l tick x_3.i))) =
                                                                                                      []) ∧
                                                                                                  (([] ++
                                                                                                              List.drop ((0:Nat))
                                                                                                                (List.take (↑x_3.at_:Int).toNat
                                                                                                                  (mksL (outR l tick x_3.i)))).length +
                                                                                                          ([AV.agg
                                                                                                                  [AV.str x_3.s,
                                                                                                                    AV.int IntKind.i64
                                                                                                                      ((↑x_3.j:Int) + (1:Int))]] ++
                                                                                                              List.drop (↑x_3.at_:Int).toNat
                                                                                                                (List.take (mksL (outR l tick x_3.i)).length
                                                                                                                  (mksL (outR l tick x_3.i)))).length) *
                                                                                                        (25:Nat) ≤
                                                                                                      (70368744177664:Nat) ∧
                                                                                                    (0:Nat) +
                                                                                                          (List.drop ((0:Nat))
                                                                                                              (List.take (↑x_3.at_:Int).toNat
                                                                                                                (mksL (outR l tick x_3.i)))).length =
                                                                                                        ([] ++
                                                                                                            List.drop ((0:Nat))
                                                                                                              (List.take (↑x_3.at_:Int).toNat
                                                                                                                (mksL (outR l tick x_3.i)))).length ∧
                                                                                                      ∃ (y:Nat),
                                                                                                        ValsAre
                                                                                                            [AV.sl ((40:Nat)) (ensL l) Own.no,
                                                                                                              AV.int IntKind.i64 tick,
                                                                                                              AV.sl ((2:Nat))
                                                                                                                ([] ++
                                                                                                                    List.drop ((0:Nat))
                                                                                                                      (List.take (↑x_3.at_:Int).toNat
                                                                                                                        (mksL (outR l tick x_3.i))) ++
                                                                                                                  ([AV.agg
                                                                                                                        [AV.str x_3.s,
                                                                                                                          AV.int IntKind.i64
                                                                                                                            ((↑x_3.j:Int) + (1:Int))]] ++
                                                                                                                    List.drop (↑x_3.at_:Int).toNat
                                                                                                                      (List.take
                                                                                                                        (mksL (outR l tick x_3.i)).length
                                                                                                                        (mksL (outR l tick x_3.i)))))
                                                                                                                Own.no,
                                                                                                              AV.int IntKind.i64
                                                                                                                (IntKind.i64.wrap ((↑x_3.i:Int) + (1:Int)))]
                                                                                                            [AV.sl ((40:Nat)) (ensL l) Own.no,
                                                                                                              AV.int IntKind.i64 tick,
                                                                                                              AV.sl ((2:Nat)) (mksL (outR l tick y)) Own.no,
                                                                                                              AV.int IntKind.i64 (↑y:Int)] ∧
                                                                                                          StIs { boxes:=[],live:=[] }
                                                                                                              { boxes:=[],live:=[] } ∧
                                                                                                            y≤l.length∧l.length - y < l.length - x)))))) ∧
        (decide ((↑x:Int) < (↑(ensL l).length:Int)) = false →
          RetLax (AV.sl ((2:Nat)) (mksL (outR l tick x)) Own.no) (AV.sl ((2:Nat)) (mksL (marksM (metL tick l))) Own.no,[]))):=by kernel_rfl
end Go.Abs
namespace Go.Abs
open Go.Proofs Go.RowKit
/-! sets as lists -/
section
variable {α : Type} [DecidableEq α]
def addU (x:α) (l:List α):List α:=if x ∈ l then l else l ++ [x]
theorem mem_addU {x y:α} {l:List α}:y ∈ addU x l ↔ y = x∨y ∈ l:=by
 unfold addU
 split
 ·constructor
  ·exact .inr
  ·rintro (rfl | h)
   ·assumption
   ·exact h
 ·simp only [List.mem_append,List.mem_singleton]
  exact Or.comm
theorem nodup_addU {x:α} {l:List α} (h:l.Nodup):(addU x l).Nodup:=by
 unfold addU
 split
 ·exact h
 ·rename_i hx
  exact List.nodup_append.2 ⟨h,by simp,by simp; exact fun a ha e=>hx (e ▸ ha)⟩
abbrev setA (k:α→AV) (l:List α):List AV:=l.map fun a=>.tup [k a,.bool true]
theorem put_setA {k:α→AV} (hk:∀ a b,keyEq (k a) (k b) = decide (a = b)) (x:α):∀ l:List α,keptPutM (setA k l) (k x) (.bool true) = setA k (addU x l)
 | []=>by simp [setA,keptPutM,addU]
 | a :: l=>by
  simp only [setA,List.map_cons,keptPutM,hk]
  by_cases e:a = x
  ·subst e; simp [addU]
  ·rw [if_neg (by simpa using e),put_setA hk x l]
   have hne:¬ x = a:=fun h=>e h.symm
   unfold addU
   by_cases hx:x ∈ l
   ·simp [hx,setA]
   ·simp [hx,hne,setA]
theorem look_setA {k:α→AV} (hk:∀ a b,keyEq (k a) (k b) = decide (a = b)) (x:α):∀ l:List α,lookM (setA k l) (k x) = if x ∈ l then some (.bool true) else none
 | []=>rfl
 | a :: l=>by
  simp only [setA,List.map_cons,lookM,hk]
  by_cases e:a = x
  ·subst e; simp
  ·have hne:¬ x = a:=fun h=>e h.symm
   rw [if_neg (by simpa using e),look_setA hk x l]
   simp [hne]
def uniq {β:Type} (f:β→α) (L:List β):List α:=L.foldl (fun m e=>addU (f e) m) []
theorem uniq_acc {β:Type} {f:β→α}:∀ (L:List β) (m:List α),m.Nodup→(L.foldl (fun m e=>addU (f e) m) m).Nodup∧∀ y,y ∈ L.foldl (fun m e=>addU (f e) m) m ↔ y ∈ m∨∃ e ∈ L,f e = y
 | [],m,h=>⟨h,fun y=>by simp⟩
 | e :: L,m,h=>by
  obtain ⟨h1,h2⟩:=uniq_acc (f:=f) L (addU (f e) m) (nodup_addU h)
  refine ⟨h1,fun y=>?_⟩
  simp only [List.foldl_cons]
  rw [h2,mem_addU]
  constructor
  ·rintro ((rfl | hm) | ⟨e',he,rfl⟩)
   ·exact .inr ⟨e,by simp,rfl⟩
   ·exact .inl hm
   ·exact .inr ⟨e',by simp [he],rfl⟩
  ·rintro (hm | ⟨e',he,rfl⟩)
   ·exact .inl (.inr hm)
   ·rcases List.mem_cons.1 he with rfl | he
    ·exact .inl (.inl rfl)
    ·exact .inr ⟨e',he,rfl⟩
theorem uniq_mem {β:Type} {f:β→α} {L:List β} {y:α}:y ∈ uniq f L ↔ ∃ e ∈ L,f e = y:=by
 unfold uniq; rw [(uniq_acc L [] List.nodup_nil).2]; simp
theorem uniq_nodup {β:Type} {f:β→α} {L:List β}:(uniq f L).Nodup:=(uniq_acc L [] List.nodup_nil).1
theorem fold_setA {β:Type} {f:β→α} {k:α→AV} (hk:∀ a b,keyEq (k a) (k b) = decide (a = b)):∀ (L:List β) (m:List α),L.foldl (fun m e=>keptPutM m (k (f e)) (.bool true)) (setA k m) = setA k (L.foldl (fun m e=>addU (f e) m) m)
 | [],m=>rfl
 | e :: L,m=>by
  simp only [List.foldl_cons]
  rw [put_setA hk]
  exact fold_setA hk L _
end
/-! the two maps -/
theorem key_id (a b:List UInt8 × Int):keyEq (idA a.1 a.2) (idA b.1 b.2) = decide (a = b):=by
 obtain ⟨s,n⟩:=a
 obtain ⟨t,q⟩:=b
 simp only [keyEq,decide_true,Bool.true_and]
 by_cases h1:s = t <;> by_cases h2:n = q <;> simp [h1,h2]
theorem key_str (a b:List UInt8):keyEq (.str a) (.str b) = decide (a = b):=by
 simp only [keyEq]
 by_cases h:a = b <;> simp [h]
theorem idsM_eq (L:List EnI):idsM L = setA (fun p:List UInt8 × Int=>idA p.1 p.2) (uniq (fun e:EnI=>(e.f.src,e.f.seq)) L):=fold_setA (f:=fun e:EnI=>(e.f.src,e.f.seq)) key_id L []
theorem srcM_eq (L:List EnI):srcM L = setA AV.str (uniq (fun e:EnI=>e.f.src) L):=fold_setA (f:=fun e:EnI=>e.f.src) key_str L []
theorem keysM_set:∀ l:List (List UInt8),keysM (setA AV.str l) = l
 | []=>rfl
 | a :: l=>by simp only [setA,List.map_cons,keysM]; rw [show keysM (List.map (fun a=>AV.tup [.str a,.bool true]) l) = l from keysM_set l]
theorem look_ids (L:List EnI) (s:List UInt8) (n:Int):lookM (idsM L) (idA s n) = if hasId L s n = true then some (.bool true) else none:=by
 rw [idsM_eq]
 have:=look_setA (k:=fun p:List UInt8 × Int=>idA p.1 p.2) key_id (s,n) (uniq (fun e:EnI=>(e.f.src,e.f.seq)) L)
 simp only at this
 rw [this]
 have e:((s,n) ∈ uniq (fun e:EnI=>(e.f.src,e.f.seq)) L) ↔ hasId L s n = true:=by
  rw [uniq_mem]
  simp only [hasId,List.any_eq_true,Bool.and_eq_true,decide_eq_true_eq,Prod.mk.injEq]
 by_cases h:hasId L s n = true
 ·rw [if_pos h,if_pos (e.2 h)]
 ·rw [if_neg h,if_neg (fun h'=>h (e.1 h'))]
theorem nmsM_eq (L:List EnI):nmsM L = keptSort (uniq (fun e:EnI=>e.f.src) L):=by
 unfold nmsM; rw [srcM_eq,keysM_set]
theorem nms_nodup (L:List EnI):(keysM (srcM L)).Nodup:=by rw [srcM_eq,keysM_set]; exact uniq_nodup
theorem mem_nmsM {L:List EnI} {s:List UInt8}:s ∈ nmsM L ↔ ∃ e ∈ L,e.f.src = s:=by
 rw [nmsM_eq,(keptSort_perm _).mem_iff,uniq_mem]
theorem metL_next {tick:Int} {l:List EnI} {i:Nat} {e:EnI} (h:l[i]? = some e):metL tick (l.take (i + 1)) = metL tick (l.take i) ++ (if relB tick e = true then [e] else []):=by
 obtain ⟨hi,rfl⟩:=List.getElem?_eq_some_iff.1 h
 unfold metL
 rw [List.take_succ_eq_append_getElem hi,List.filter_append]
 generalize l[i] = e
 congr 1
 by_cases hr:relB tick e = true
 ·rw [if_pos hr,List.filter_cons_of_pos hr]; rfl
 ·rw [if_neg hr,List.filter_cons_of_neg hr]; rfl
theorem metL_len (tick:Int) (l:List EnI):(metL tick l).length≤l.length:=List.length_filter_le ..
theorem idsM_snoc (L:List EnI) (e:EnI):idsM (L ++ [e]) = keptPutM (idsM L) (idA e.f.src e.f.seq) (.bool true):=by simp [idsM,List.foldl_append]
theorem srcM_snoc (L:List EnI) (e:EnI):srcM (L ++ [e]) = keptPutM (srcM L) (.str e.f.src) (.bool true):=by simp [srcM,List.foldl_append]
theorem nmsR_snoc (L:List EnI) (e:EnI):nmsR (L ++ [e]) = insN e.f.src (nmsR L):=by simp [nmsR,List.foldl_append]
/-! the next number -/
theorem nodup_len {α:Type} [DecidableEq α]:∀ {l m:List α},l.Nodup→(∀ x ∈ l,x ∈ m)→l.length≤m.length
 | [],m,_,_=>Nat.zero_le _
 | x :: l,m,h,hs=>by
  obtain ⟨h1,h2⟩:=List.nodup_cons.1 h
  have hx:=hs x (by simp)
  have:=nodup_len (l:=l) (m:=m.erase x) h2 fun y hy=>(List.mem_erase_of_ne (fun e:y = x=>h1 (by rw [← e]; exact hy))).2 (hs y (by simp [hy]))
  rw [List.length_erase_of_mem hx] at this
  have:=List.length_pos_of_mem hx
  simp; omega
theorem pigeon {L:List EnI} {s:List UInt8} {j:Nat} (h:∀ k:Nat,k < j→hasId L s (k + 1) = true):j≤L.length:=by
 have hsub:∀ x ∈ (List.range j).map fun k:Nat=>(k:Int) + 1,x ∈ L.map fun e=>e.f.seq:=fun x hx=>by
  obtain ⟨k,hk,rfl⟩:=List.mem_map.1 hx
  have:=h k (List.mem_range.1 hk)
  simp only [hasId,List.any_eq_true,Bool.and_eq_true,decide_eq_true_eq] at this
  obtain ⟨e,he,_,h2⟩:=this
  exact List.mem_map.2 ⟨e,he,h2⟩
 have hnd:((List.range j).map fun k:Nat=>(k:Int) + 1).Nodup:=by
  unfold List.Nodup
  rw [List.pairwise_map]
  exact List.nodup_range.imp fun h e=>h (by omega)
 have:=nodup_len hnd hsub
 simpa using this
theorem nextF_go {has:Int→Bool} {k:Nat} {n:Int} (h:has n = true):nextF has (k + 1) n = nextF has k (n + 1):=by simp [nextF,h]
theorem nextF_stop {has:Int→Bool} {k:Nat} {n:Int} (h:has n = false):nextF has k n = n:=by cases k <;> simp [nextF,h]
/-! names in their places -/
theorem insN_ok {s:List UInt8} {l:List (List UInt8)} (h:l.Pairwise (· < ·)):(insN s l).Pairwise (· < ·)∧∀ y,y ∈ insN s l ↔ y = s∨y ∈ l:=by
 have hd:l.takeWhile (fun a=>Op.bytesLess a s) ++ l.dropWhile (fun a=>Op.bytesLess a s) = l:=List.takeWhile_append_dropWhile
 obtain ⟨A,hA⟩:∃ A,l.takeWhile (fun a=>Op.bytesLess a s) = A:=⟨_,rfl⟩
 obtain ⟨B,hB⟩:∃ B,l.dropWhile (fun a=>Op.bytesLess a s) = B:=⟨_,rfl⟩
 have hAs:∀ a ∈ A,a < s:=fun a ha=>by
  have:(fun a=>Op.bytesLess a s) a = true:=List.all_eq_true.1 (List.all_takeWhile (p:=fun a=>Op.bytesLess a s) (l:=l)) a (hA ▸ ha)
  simpa [bytesLess_eq] using this
 have hBh:∀ b,B.head? = some b→¬ b < s:=fun b hb=>by
  have hne:l.dropWhile (fun a=>Op.bytesLess a s) ≠ []:=by rw [hB]; intro e; rw [e] at hb; cases hb
  have:=List.head_dropWhile_not (p:=fun a=>Op.bytesLess a s) (l:=l) hne
  have e:(l.dropWhile (fun a=>Op.bytesLess a s)).head hne = b:=by
   have:(l.dropWhile (fun a=>Op.bytesLess a s)).head? = some b:=by rw [hB]; exact hb
   rw [List.head?_eq_some_head hne] at this
   injection this
  rw [e] at this
  simpa [bytesLess_eq] using this
 rw [hA,hB] at hd
 subst hd
 unfold insN
 simp only [hA]
 rw [List.getElem?_append_right (Nat.le_refl _),Nat.sub_self,List.take_left' rfl,List.drop_left' rfl]
 obtain ⟨p1,p2,p3⟩:=List.pairwise_append.1 h
 cases B with
 | nil =>
  simp only [List.getElem?_nil,List.append_nil]
  rw [if_neg (by simp)]
  exact ⟨List.pairwise_append.2 ⟨p1,by simp,fun a ha b hb=>by simp at hb; subst hb; exact hAs a ha⟩,fun y=>by simp [or_comm]⟩
 | cons b B =>
  simp only [List.getElem?_cons_zero,Option.some.injEq]
  have hb:=hBh b rfl
  by_cases e:b = s
  ·subst e
   rw [if_pos rfl]
   exact ⟨h,fun y=>by simp; intro h; right; left; exact h⟩
  ·rw [if_neg e]
   have hsb:s < b:=by
    by_cases h':s < b
    ·exact h'
    ·exact absurd (List.le_antisymm (List.not_lt.1 h') (List.not_lt.1 hb)) e
   obtain ⟨p4,p5⟩:=List.pairwise_cons.1 p2
   refine ⟨?_,fun y=>by simp only [List.mem_append,List.mem_cons,List.not_mem_nil,or_false]; rw [@Or.comm (y ∈ A),or_assoc]⟩
   rw [List.append_assoc]
   refine List.pairwise_append.2 ⟨p1,?_,fun a ha c hc=>?_⟩
   ·simp only [List.singleton_append]
    exact List.pairwise_cons.2 ⟨fun c hc=>by
     rcases List.mem_cons.1 hc with rfl | hc
     ·exact hsb
     ·exact List.lt_trans hsb (p4 c hc),p2⟩
   ·simp only [List.singleton_append,List.mem_cons] at hc
    rcases hc with rfl | hc
    ·exact hAs a ha
    ·exact p3 a ha c (by simpa using hc)
theorem nmsR_acc:∀ (L:List EnI) (m:List (List UInt8)),m.Pairwise (· < ·)→(L.foldl (fun m e=>insN e.f.src m) m).Pairwise (· < ·)∧∀ y,y ∈ L.foldl (fun m e=>insN e.f.src m) m ↔ y ∈ m∨∃ e ∈ L,e.f.src = y
 | [],m,h=>⟨h,fun y=>by simp⟩
 | e :: L,m,h=>by
  obtain ⟨a1,a2⟩:=insN_ok (s:=e.f.src) h
  obtain ⟨h1,h2⟩:=nmsR_acc L _ a1
  refine ⟨h1,fun y=>?_⟩
  simp only [List.foldl_cons]
  rw [h2,a2]
  constructor
  ·rintro ((rfl | hm) | ⟨e',he,rfl⟩)
   ·exact .inr ⟨e,by simp,rfl⟩
   ·exact .inl hm
   ·exact .inr ⟨e',by simp [he],rfl⟩
  ·rintro (hm | ⟨e',he,rfl⟩)
   ·exact .inl (.inr hm)
   ·rcases List.mem_cons.1 he with rfl | he
    ·exact .inl (.inl rfl)
    ·exact .inr ⟨e',he,rfl⟩
theorem nmsR_sorted (L:List EnI):(nmsR L).Pairwise (· < ·):=(nmsR_acc L [] List.Pairwise.nil).1
theorem nmsR_eq (L:List EnI):nmsR L = nmsM L:=by
 have h1:=nmsR_sorted L
 have h2:∀ y,y ∈ nmsR L ↔ ∃ e ∈ L,e.f.src = y:=fun y=>by
  have:=(nmsR_acc L [] List.Pairwise.nil).2 y
  simpa [nmsR] using this
 have hnd:(nmsR L).Nodup:=h1.imp fun h e=>by subst e; exact List.lt_irrefl _ h
 have hnd2:(nmsM L).Nodup:=by rw [nmsM_eq]; exact (keptSort_perm _).nodup_iff.2 uniq_nodup
 refine List.Perm.eq_of_pairwise (le:=fun a b=>leB a b = true) (fun a b _ _ h1 h2=>?_) (h1.imp fun h=>?_) (by rw [nmsM_eq]; exact keptSort_sorted _) ((List.perm_ext_iff_of_nodup hnd hnd2).2 fun y=>by rw [h2,mem_nmsM])
 ·simp only [leB,decide_eq_true_eq] at h1 h2
  exact List.le_antisymm h1 h2
 ·simp only [leB,decide_eq_true_eq]
  exact List.le_of_lt h
theorem nmsR_len (L:List EnI):(nmsR L).length≤L.length:=by
 rw [nmsR_eq,nmsM_eq,(keptSort_perm _).length_eq]
 have hsub:∀ x ∈ uniq (fun e:EnI=>e.f.src) L,x ∈ L.map fun e=>e.f.src:=fun x hx=>by
  obtain ⟨e,he,rfl⟩:=uniq_mem.1 hx
  exact List.mem_map.2 ⟨e,he,rfl⟩
 have:=nodup_len uniq_nodup hsub
 simpa using this
theorem outR_all (l:List EnI) (tick:Int):outR l tick l.length = marksM (metL tick l):=by
 unfold outR marksM
 rw [List.take_of_length_le (Nat.le_refl _),nmsR_eq]
theorem agg63:aggA PI 63 = some true:=by kernel_rfl
theorem size63:sizeA PI 63 = some 40:=by kernel_rfl
theorem agg30:aggA PI 30 = some true:=by kernel_rfl
theorem size30:sizeA PI 30 = some 2:=by kernel_rfl
theorem agg3i:aggA PI 3 = some false:=by kernel_rfl
theorem size3i:sizeA PI 3 = some 1:=by kernel_rfl
theorem size9i:sizeA PI 9 = some 1:=by kernel_rfl
theorem take_en {l:List EnI} {i:Nat} {e:EnI} (h:l[i]? = some e):takeAt PI 63 (ensL l) i 0 = some (enA e):=by
 simp only [takeAt,List.getElem?_map,h,Option.map_some,takeA,agg63,size63]
 rfl
theorem take_en2 {l:List EnI} {i:Nat} {e:EnI} (h:l[i]? = some e):takeAt PI 3 (ensL l) i 2 = some (.int .i64 e.kind):=by
 simp only [takeAt,List.getElem?_map,h,Option.map_some,takeA,agg3i,size3i]
 rfl
theorem take_en1 {l:List EnI} {i:Nat} {e:EnI} (h:l[i]? = some e):takeAt PI 3 (ensL l) i 1 = some (.int .i64 e.tick):=by
 simp only [takeAt,List.getElem?_map,h,Option.map_some,takeA,agg3i,size3i]
 rfl
theorem take_en3 {l:List EnI} {i:Nat} {e:EnI} (h:l[i]? = some e):takeAt PI 30 (ensL l) i 3 = some (idA e.f.src e.f.seq):=by
 simp only [takeAt,List.getElem?_map,h,Option.map_some,takeA,agg30,size30]
 rfl
theorem take_en9 {l:List EnI} {i:Nat} {e:EnI} (h:l[i]? = some e):takeAt PI 9 (ensL l) i 3 = some (.str e.f.src):=by
 simp only [takeAt,List.getElem?_map,h,Option.map_some,takeA,agg9,size9i]
 rfl
theorem take_mk9 {l:List MkI} {i:Nat} {e:MkI} (h:l[i]? = some e):takeAt PI 9 (mksL l) i 0 = some (.str e.s):=by
 simp only [takeAt,List.getElem?_map,h,Option.map_some,takeA,agg9,size9i]
 rfl
theorem take_str9 {l:List (List UInt8)} {i:Nat} {s:List UInt8} (h:l[i]? = some s):takeAt PI 9 (l.map AV.str) i 0 = some (.str s):=by
 simp only [takeAt,List.getElem?_map,h,Option.map_some,takeA,agg9,size9i]
 rfl
theorem unE_inv (a:AV) (x:EnI) (h:unE a = some x):a = enA x:=by
 unfold unE at h
 split at h
 ·rename_i tick kind src seq k2 ref table key event sz es rest
  split at h
  ·rename_i hc
   obtain ⟨rfl,hl,ho⟩:=hc
   cases hu:unL unV es with
   | none=>rw [hu] at h; cases h
   | some fs =>
    rw [hu] at h
    injection h with h; subst h
    rw [unL_inv unV_inv hu]
    have:rest = List.replicate 29 .opq:=List.eq_replicate_iff.2 ⟨hl,fun b hb=>by
     have:=List.all_eq_true.1 ho b hb
     cases b <;> simp [isOpq] at this ⊢⟩
    rw [this]
    rfl
  ·cases h
 ·cases h
theorem unEs_inv {es:List AV} {l:List EnI} (h:unL unE es = some l):es = ensL l:=unL_inv unE_inv h
theorem unE_ok (e:EnI):unE (enA e) = some e:=by
 show (if (3 = 3∧(List.replicate 29 AV.opq).length = 29∧(List.replicate 29 AV.opq).all isOpq = true) then (unL unV (vasL e.f.fs)).map (fun fs=>(⟨e.tick,e.kind,⟨e.f.src,e.f.seq,e.f.kind,e.f.ref,e.f.table,e.f.key,e.f.event,fs⟩⟩:EnI)) else none) = some e
 rw [if_pos ⟨rfl,rfl,rfl⟩,show unL unV (vasL e.f.fs) = some e.f.fs from unL_map unV_ok e.f.fs]
 rfl
theorem unEs_ok (l:List EnI):unL unE (ensL l) = some l:=unL_map unE_ok l
theorem hasId_snoc (L:List EnI) (e:EnI) (s:List UInt8) (n:Int):hasId (L ++ [e]) s n = (hasId L s n || (decide (e.f.src = s) && decide (e.f.seq = n))):=by simp [hasId,List.any_append]
theorem rel_no {tick:Int} {e:EnI} (h:¬ (e.kind = 1∧e.tick≤tick)):relB tick e = false:=by
 cases hr:relB tick e with
 | false=>rfl
 | true=>simp only [relB,Bool.and_eq_true,decide_eq_true_eq] at hr; exact absurd hr h
theorem rel_yes {tick:Int} {e:EnI} (h1:e.kind = 1) (h2:e.tick≤tick):relB tick e = true:=by simp [relB,h1,h2]
theorem met_skip {tick:Int} {l:List EnI} {i:Nat} {e:EnI} (h:l[i]? = some e) (hr:relB tick e = false):metL tick (l.take (i + 1)) = metL tick (l.take i):=by
 rw [metL_next h,hr]; simp
theorem met_add {tick:Int} {l:List EnI} {i:Nat} {e:EnI} (h:l[i]? = some e) (hr:relB tick e = true):metL tick (l.take (i + 1)) = metL tick (l.take i) ++ [e]:=by
 rw [metL_next h,hr]; simp
theorem mem_met {tick:Int} {l:List EnI} {i:Nat} {e:EnI} (h:l[i]? = some e) (hr:relB tick e = true):e ∈ metL tick l:=List.mem_filter.2 ⟨List.mem_of_getElem? h,hr⟩
theorem p42 (m:Int) (l:List EnI) (tick:Int) (s:List UInt8) (x:Int) (hl:l.length≤2000000):PureOk PI (GI m) XMa (tbl []) (itbl []) (a42 l tick s x) [] 42 [.sl 40 (ensL l) .no,.int .i64 tick,.agg [.str s,.int .i64 x]] (.bool (hasId (metL tick l) s x),[]):=by
 constructor
 rw [w42]
 have hll:(ensL l).length = l.length:=List.length_map ..
 rw [hll]
 refine ⟨⟨0,⟨rfl⟩,⟨rfl⟩,⟨Nat.zero_le _,rfl⟩,trivial⟩,fun i hi=>⟨fun hlt=>?_,fun hge=>?_⟩⟩
 ·have hlt:=of_decide_eq_true hlt
  have hil:i < l.length:=by omega
  have he:=List.getElem?_eq_getElem hil
  have hb:(0:Int)≤i∧(i:Int) < l.length:=⟨by omega,hlt⟩
  have go:hasId (metL tick (l.take (i + 1))) s x = false→∃ y:Nat,ValsAre [.sl 40 (ensL l) .no,.int .i64 tick,.ptr 0 0,.int .i64 (IntKind.i64.wrap ((i:Int) + 1))] [.sl 40 (ensL l) .no,.int .i64 tick,.ptr 0 0,.int .i64 y]∧StIs ⟨[some [.str s,.int .i64 x]],[]⟩ ⟨[some [.str s,.int .i64 x]],[]⟩∧(y≤l.length∧hasId (metL tick (l.take y)) s x = false)∧l.length - y < l.length - i:=fun h=>⟨i + 1,⟨by rw [wrapN (by omega)]⟩,⟨rfl⟩,⟨hil,h⟩,by omega⟩
  refine ⟨hb,_,by rw [Int.toNat_natCast]; exact take_en2 he,fun h1=>⟨hb,_,by rw [Int.toNat_natCast]; exact take_en1 he,fun h2=>⟨hb,_,_,by rw [Int.toNat_natCast]; exact take_en3 he,fun h3=>?_,fun h3=>?_⟩,fun h2=>?_⟩,fun h1=>?_⟩
  ·have hr:relB tick l[i] = true:=rel_yes (by simpa using h1) (by simpa using h2)
   refine ⟨?_⟩
   have:hasId (metL tick l) s x = true:=by
    simp only [hasId,List.any_eq_true,Bool.and_eq_true,decide_eq_true_eq]
    simp only [Bool.and_true,Bool.and_eq_true,beq_iff_eq] at h3
    exact ⟨l[i],mem_met he hr,h3.1,h3.2⟩
   rw [this]
  ·have hr:relB tick l[i] = true:=rel_yes (by simpa using h1) (by simpa using h2)
   refine go ?_
   rw [met_add he hr,hasId_snoc,hi.2]
   simp only [Bool.and_true] at h3
   have:(decide (l[i].f.src = s) && decide (l[i].f.seq = x)) = (l[i].f.src == s && l[i].f.seq == x):=by
    by_cases a:l[i].f.src = s <;> by_cases b:l[i].f.seq = x <;> simp [a,b]
   rw [this,h3]; rfl
  ·exact go (by rw [met_skip he (rel_no fun h=>by have:=of_decide_eq_false h2; exact this h.2)]; exact hi.2)
  ·exact go (by rw [met_skip he (rel_no fun h=>by simp [h.1] at h1)]; exact hi.2)
 ·have hge:=of_decide_eq_false hge
  have:=hi.2
  rw [List.take_of_length_le (by omega)] at this
  exact ⟨by rw [this]⟩
theorem o42 (m:Int):SpecOk PI (GI m) 42 s42:=spec_of (X:=XMa) (m:=[]) mixedI tbl_nil itbl_nil fun args r h=>by
 unfold s42 at h
 split at h
 case h_2=>cases h
 split at h
 case isFalse=>cases h
 rename_i hc
 obtain ⟨rfl,hl⟩:=hc
 split at h
 case h_2=>cases h
 rename_i l hu
 obtain rfl:=unEs_inv hu
 injection h with h; subst h
 rw [List.length_map] at hl
 exact ⟨_,p42 m l _ _ _ hl⟩
theorem keyIs_id {s:List UInt8} {n:Int} (h1:s.length≤140737488351232) (h2:-9223372036854775808≤n) (h3:n≤9223372036854775807):KeyIs PI 30 (idA s n):=by
 have hp:pairKey PI 30 = some .i64:=by kernel_rfl
 have hw:(Lit.int .i64 n).wf = true:=by
  simp only [Lit.wf,IntKind.min,IntKind.max,IntKind.signed,IntKind.bits,Bool.and_eq_true,decide_eq_true_eq,if_true]
  exact ⟨by omega,by omega⟩
 refine ⟨?_⟩
 unfold keyL
 simp only [hp]
 rw [if_pos ⟨trivial,hw,by unfold maxLen; omega⟩]; rfl
theorem keyIs_str {s:List UInt8} (h1:s.length≤140737488351232):KeyIs PI 9 (.str s):=by
 have hk:PI.underlying 9 = some .string:=by kernel_rfl
 refine ⟨?_⟩
 simp only [keyL,hk]
 rw [if_pos (by unfold maxLen; omega)]; rfl
theorem idsOk_at {l:List EnI} (h:idsOk l = true) {e:EnI} (he:e ∈ l):e.f.src.length≤140737488351232∧-9223372036854775808≤e.f.seq∧e.f.seq≤9223372036854775807:=by
 have:=List.all_eq_true.1 h e he
 simp only [Bool.and_eq_true,decide_eq_true_eq] at this
 exact ⟨this.1.1,this.1.2,this.2⟩
theorem p15 (m:Int) (l:List EnI) (tick:Int) (hl:l.length≤2000000) (hi:idsOk l = true):LaxOk PI (GI m) XMa (tbl []) (itbl [(41,s41),(40,s40)]) (a15 l tick) [] 15 [.sl 40 (ensL l) .no,.int .i64 tick] (.sl 2 (mksL (marksM (metL tick l))) .no,[]):=by
 constructor
 rw [w15]
 have hll:(ensL l).length = l.length:=List.length_map ..
 have hml:∀ n,(metL tick (l.take n)).length≤2000000:=fun n=>by
  have h1:=metL_len tick (l.take n)
  have h2:(l.take n).length≤l.length:=by rw [List.length_take]; omega
  omega
 have hmL:(metL tick l).length≤2000000:=by have:=metL_len tick l; omega
 refine ⟨⟨0,⟨by rw [hll]; rfl⟩,⟨rfl⟩,Nat.zero_le _,trivial⟩,fun i hil=>⟨fun hlt=>?_,fun hge=>?_⟩⟩
 ·have hlt:=of_decide_eq_true hlt
  have hil:i < l.length:=by omega
  have he:=List.getElem?_eq_getElem hil
  have hb:(0:Int)≤i∧(i:Int) < (ensL l).length:=⟨by omega,by rw [hll]; exact hlt⟩
  have ho:=idsOk_at hi (List.getElem_mem hil)
  refine ⟨hb,_,_,_,_,_,_,_,_,_,_,by rw [Int.toNat_natCast]; exact take_en he,fun h1=>⟨fun h2=>⟨trivial,keyIs_id ho.1 ho.2.1 ho.2.2,val_true,by omega,by have:=hml i; omega,trivial,keyIs_str ho.1,val_true,by omega,by have:=hml i; omega,?_⟩,fun h2=>?_⟩,fun h1=>?_⟩
  ·have hr:relB tick l[i] = true:=rel_yes (by simpa using h1) (by simpa using h2)
   refine ⟨i + 1,⟨by rw [wrapN (by omega)]⟩,⟨?_⟩,hil,by omega⟩
   rw [met_add he hr,idsM_snoc,srcM_snoc]
   simp only [List.length_append,List.length_cons,List.length_nil,Int.natCast_add]
   rfl
  ·exact ⟨i + 1,⟨by rw [wrapN (by omega)]⟩,⟨by rw [met_skip he (rel_no fun h=>by have:=of_decide_eq_false h2; exact this h.2)]⟩,hil,by omega⟩
  ·exact ⟨i + 1,⟨by rw [wrapN (by omega)]⟩,⟨by rw [met_skip he (rel_no fun h=>by simp [h.1] at h1)]⟩,hil,by omega⟩
 ·have hge:=of_decide_eq_false hge
  have hx:l.take i = l:=List.take_of_length_le (by omega)
  rw [hx]
  have hnl:(nmsM (metL tick l)).length≤2000000:=by rw [← nmsR_eq]; have:=nmsR_len (metL tick l); omega
  have hmk:∀ n,n≤(nmsM (metL tick l)).length→((marksM (metL tick l)).take n).length = n:=fun n hn=>by simp [marksM]; omega
  have hmk2:∀ n,n≤(nmsM (metL tick l)).length→(mksL ((marksM (metL tick l)).take n)).length = n:=fun n hn=>by simp [marksM]; omega
  refine ⟨trivial,⟨nms_nodup _,by omega⟩,⟨0,⟨by rw [List.length_map]; rfl⟩,⟨rfl⟩,Nat.zero_le _,trivial⟩,fun x hx=>⟨fun hlt=>?_,fun hge=>?_⟩⟩
  ·have hlt:=of_decide_eq_true hlt
   have hxl:x < (nmsM (metL tick l)).length:=by omega
   have hs:=List.getElem?_eq_getElem hxl
   have hsl:∀ s,s ∈ nmsM (metL tick l)→s.length≤140737488351232:=fun s hs=>by
    obtain ⟨e,he,rfl⟩:=mem_nmsM.1 hs
    exact (idsOk_at hi (List.mem_filter.1 he).1).1
   refine ⟨⟨by omega,by rw [List.length_map]; exact hlt⟩,_,by rw [Int.toNat_natCast]; exact take_str9 hs,⟨⟨x,0,_⟩,⟨rfl⟩,⟨rfl⟩,⟨hs,Nat.zero_le _,fun k hk=>absurd hk (Nat.not_lt_zero _),rfl⟩,rfl⟩,fun z hz hzx=>?_⟩
   obtain ⟨i,j,s⟩:=z
   simp only at hz hzx ⊢
   obtain ⟨hzs,hzj,hzh,hzn⟩:=hz
   have hix:x = i:=by
    have h:(x:Int) = i:=by simpa using hzx
    omega
   subst hix
   rw [hs] at hzs
   injection hzs with hzs
   have hsm:s ∈ nmsM (metL tick l):=hzs ▸ List.getElem_mem hxl
   have hjl:j≤2000000:=by omega
   refine ⟨keyIs_id (hsl s hsm) (by omega) (by omega),hasId (metL tick l) s ((j:Int) + 1),⟨by rw [look_ids]; cases hasId (metL tick l) s ((j:Int) + 1) <;> rfl⟩,fun hb=>?_,fun hb=>?_⟩
   ·have hj2:j + 1≤(metL tick l).length:=pigeon (s:=s) fun k hk=>by
     rcases Nat.lt_or_eq_of_le (Nat.lt_succ_iff.1 hk) with h | h
     ·exact hzh k h
     ·subst h; exact hb
    refine ⟨⟨x,j + 1,s⟩,⟨rfl⟩,⟨?_⟩,⟨by rw [hs,hzs],hj2,fun k hk=>?_,?_⟩,rfl,by show (metL tick l).length - (j + 1) < (metL tick l).length - j; omega⟩
    ·rw [show (j:Int) + 1 + 1 = ((j + 1:Nat):Int) + 1 by omega,wrapN (by omega)]
     rfl
    ·show hasId (metL tick l) s ((k:Int) + 1) = true
     rcases Nat.lt_or_eq_of_le (Nat.lt_succ_iff.1 hk) with h | h
     ·exact hzh k h
     ·subst h; exact hb
    ·show nextF (hasId (metL tick l) s) ((metL tick l).length - (j + 1)) (((j + 1:Nat):Int) + 1) = nextM (metL tick l) s
     rw [← hzn,show (metL tick l).length - j = ((metL tick l).length - (j + 1)) + 1 by omega,nextF_go hb]
     rfl
   ·have hnx:nextM (metL tick l) s = (j:Int) + 1:=by rw [← hzn]; exact nextF_stop hb
    have hlen:(marksM (metL tick l)).length = (nmsM (metL tick l)).length:=by simp [marksM]
    have hxm:x < (marksM (metL tick l)).length:=by omega
    have hmx:(marksM (metL tick l))[x] = ⟨s,(j:Int) + 1⟩:=by
     simp only [marksM,List.getElem_map,mkOf]
     rw [hzs,hnx]
    refine ⟨.inl trivial,by rw [hmk2 _ hx]; omega,by rw [hmk _ hx,hmk2 _ hx],x + 1,⟨?_⟩,⟨?_⟩,hxl,by omega⟩
    ·rw [wrapN (by omega),List.take_succ_eq_append_getElem hxm,hmx]
     simp only [List.map_append,List.map_cons,List.map_nil]
     rfl
    ·rw [hmk2 _ hx,hmk _ hxl]
  ·have hge:=of_decide_eq_false hge
   have hxl:x = (nmsM (metL tick l)).length:=by omega
   have:(marksM (metL tick l)).take x = marksM (metL tick l):=List.take_of_length_le (by simp [marksM]; omega)
   rw [this]
   exact ⟨⟨rfl,rfl,.inl rfl⟩,rfl,rfl⟩
theorem o15 (m:Int):SpecOk PI (GI m) 15 s15:=lax_of (X:=XMa) (m:=[]) mixedI tbl_nil (itbl_cons (o41 m) (itbl_cons (o40 m) itbl_nil)) fun args r h=>by
 unfold s15 at h
 split at h
 case h_2=>cases h
 split at h
 case isFalse=>cases h
 rename_i hc
 obtain ⟨rfl,hl⟩:=hc
 split at h
 case h_2=>cases h
 rename_i l hu
 obtain rfl:=unEs_inv hu
 split at h
 case isFalse=>cases h
 rename_i hi
 injection h with h; subst h
 rw [List.length_map] at hl
 exact ⟨_,p15 m l _ hl hi⟩
theorem tw_end {α:Type} {p:α→Bool}:∀ {l:List α} (h:(l.takeWhile p).length < l.length),p l[(l.takeWhile p).length] = false
 | [],h=>by simp at h
 | x :: l,h=>by
  by_cases h0:p x = true
  ·have e:(x :: l).takeWhile p = x :: l.takeWhile p:=List.takeWhile_cons_of_pos h0
   have h2:(l.takeWhile p).length < l.length:=by rw [e] at h; simpa using h
   have:=tw_end h2
   simp only [e,List.length_cons,List.getElem_cons_succ]
   exact this
  ·have e:(x :: l).takeWhile p = []:=List.takeWhile_cons_of_neg h0
   simp only [e,List.length_nil,List.getElem_cons_zero]
   simpa using h0
theorem outR_len (l:List EnI) (tick:Int) (i:Nat):(outR l tick i).length = (nmsR (metL tick (l.take i))).length:=by simp [outR]
theorem outR_at {l:List EnI} {tick:Int} {i a:Nat} (h:a < (nmsR (metL tick (l.take i))).length):(outR l tick i)[a]? = some (mkOf (metL tick l) (nmsR (metL tick (l.take i)))[a]):=by
 simp [outR,h]
theorem outR_skip {l:List EnI} {tick:Int} {i:Nat} {e:EnI} (h:l[i]? = some e) (hr:relB tick e = false):outR l tick (i + 1) = outR l tick i:=by
 unfold outR; rw [met_skip h hr]
theorem outR_old {l:List EnI} {tick:Int} {i:Nat} {e:EnI} (h:l[i]? = some e) (hr:relB tick e = true) (ho:(nmsR (metL tick (l.take i)))[((nmsR (metL tick (l.take i))).takeWhile fun a=>Op.bytesLess a e.f.src).length]? = some e.f.src):outR l tick (i + 1) = outR l tick i:=by
 unfold outR; rw [met_add h hr,nmsR_snoc]
 congr 1
 unfold insN
 rw [if_pos ho]
theorem outR_new {l:List EnI} {tick:Int} {i k:Nat} {e:EnI} (h:l[i]? = some e) (hr:relB tick e = true) (hk:k = ((nmsR (metL tick (l.take i))).takeWhile fun a=>Op.bytesLess a e.f.src).length) (ho:(nmsR (metL tick (l.take i)))[k]? ≠ some e.f.src) :
  outR l tick (i + 1) = (outR l tick i).take k ++ [mkOf (metL tick l) e.f.src] ++ (outR l tick i).drop k:=by
 subst hk
 unfold outR; rw [met_add h hr,nmsR_snoc]
 unfold insN
 rw [if_neg ho]
 simp [List.map_append,List.map_take,List.map_drop]
theorem c42 {l:List EnI} {tick:Int} {s:List UInt8} {n:Int} (hl:l.length≤2000000):tbl [(42,s42)] 42 [.sl 40 (ensL l) .no,.int .i64 tick,.agg [.str s,.int .i64 n]] = some (.bool (hasId (metL tick l) s n),[]):=by
 rw [tbl_hit]
 simp only [s42,unEs_ok]
 rw [if_pos ⟨trivial,by rw [List.length_map]; exact hl⟩]
theorem natI {a b:Nat} (h:some (AV.int .i64 (a:Int)) = some (.int .i64 (b:Int))):a = b:=by
 have h:(a:Int) = b:=by simpa using h
 omega
theorem p16 (m:Int) (l:List EnI) (tick:Int) (hl:l.length≤2000000):LaxOk PI (GI m) XMa (tbl [(42,s42)]) (itbl []) (a16 l tick) [] 16 [.sl 40 (ensL l) .no,.int .i64 tick] (.sl 2 (mksL (marksM (metL tick l))) .no,[]):=by
 constructor
 rw [w16]
 have hll:(ensL l).length = l.length:=List.length_map ..
 have hmL:(metL tick l).length≤2000000:=by have:=metL_len tick l; omega
 have hol:∀ i,(outR l tick i).length≤2000000:=fun i=>by
  have h1:=nmsR_len (metL tick (l.take i))
  have h2:=metL_len tick (l.take i)
  have h3:(l.take i).length≤l.length:=by rw [List.length_take]; omega
  rw [outR_len]; omega
 have hml:∀ i,(mksL (outR l tick i)).length = (outR l tick i).length:=fun i=>List.length_map ..
 rw [hll]
 refine ⟨⟨0,⟨rfl⟩,⟨rfl⟩,Nat.zero_le _,trivial⟩,fun x hx=>⟨fun hlt=>?_,fun hge=>?_⟩⟩
 ·have hlt:=of_decide_eq_true hlt
  have hxl:x < l.length:=by omega
  have he:=List.getElem?_eq_getElem hxl
  have hb:(0:Int)≤x∧(x:Int) < l.length:=⟨by omega,hlt⟩
  have skip:relB tick l[x] = false→∃ y:Nat,ValsAre [.sl 40 (ensL l) .no,.int .i64 tick,.sl 2 (mksL (outR l tick x)) .no,.int .i64 (IntKind.i64.wrap ((x:Int) + 1))] [.sl 40 (ensL l) .no,.int .i64 tick,.sl 2 (mksL (outR l tick y)) .no,.int .i64 y]∧StIs ⟨[],[]⟩ ⟨[],[]⟩∧y≤l.length∧l.length - y < l.length - x:=fun hr=>⟨x + 1,⟨by rw [wrapN (by omega),outR_skip he hr]⟩,⟨rfl⟩,hxl,by omega⟩
  refine ⟨hb,_,by rw [Int.toNat_natCast]; exact take_en2 he,fun h1=>skip (rel_no fun h=>by simp [h.1] at h1),fun h1=>⟨hb,_,by rw [Int.toNat_natCast]; exact take_en1 he,fun h2=>skip (rel_no fun h=>by have:=of_decide_eq_true h2; omega),fun h2=>⟨hb,_,by rw [Int.toNat_natCast]; exact take_en9 he,?_⟩⟩⟩
  have hr:relB tick l[x] = true:=rel_yes (by simpa using h1) (by have:=of_decide_eq_false h2; omega)
  refine ⟨⟨⟨⟨x,0,l[x].f.src,0⟩,⟨rfl⟩,⟨rfl⟩,⟨hxl,⟨_,he,hr,rfl⟩,Nat.zero_le _⟩,rfl⟩,fun x1 hx1 hlk1=>?_⟩,fun x1 hx1 hlk1=>?_⟩
  ·
   obtain ⟨i,a,s,j⟩:=x1
   simp only at hx1 hlk1 ⊢
   obtain ⟨hi,hes,hak⟩:=hx1
   have hix:=natI hlk1
   obtain ⟨T,hT⟩:∃ T,nmsR (metL tick (l.take i)) = T:=⟨_,rfl⟩
   have hTl:(outR l tick i).length = T.length:=by rw [outR_len,hT]
   rw [hml,hTl]
   have hTs:=hol i
   rw [hTl] at hTs
   have hkT:(T.takeWhile fun a=>Op.bytesLess a s).length≤T.length:=(List.takeWhile_prefix _).length_le
   rw [hT] at hak
   have out:a = (T.takeWhile fun a=>Op.bytesLess a s).length→∃ y:St16,ValsAre [.sl 40 (ensL l) .no,.int .i64 tick,.sl 2 (mksL (outR l tick i)) .no,.int .i64 i,.ptr 0 0,.int .i64 a] [.sl 40 (ensL l) .no,.int .i64 tick,.sl 2 (mksL (outR l tick y.i)) .no,.int .i64 y.i,.ptr 0 0,.int .i64 y.at_]∧StIs ⟨[some [.str s,.int .i64 1]],[]⟩ ⟨[some [.str y.s,.int .i64 1]],[]⟩∧(y.i < l.length∧(∃ e,l[y.i]? = some e∧relB tick e = true∧e.f.src = y.s)∧y.at_ = ((nmsR (metL tick (l.take y.i))).takeWhile fun a=>Op.bytesLess a y.s).length)∧some (AV.int .i64 (x:Int)) = some (.int .i64 (y.i:Int)):=fun ha=>⟨⟨i,a,s,0⟩,⟨rfl⟩,⟨rfl⟩,⟨hi,hes,by show a = _; rw [hT]; exact ha⟩,hlk1⟩
   refine ⟨fun hlt1=>?_,fun hge1=>?_⟩
   ·have hlt1:=of_decide_eq_true hlt1
    have haT:a < T.length:=by omega
    have hat:(outR l tick i)[a]? = some (mkOf (metL tick l) T[a]):=by subst hT; exact outR_at haT
    refine ⟨⟨by omega,hlt1⟩,T[a],by rw [Int.toNat_natCast]; exact take_mk9 hat,fun hbl=>?_,fun hbl=>out ?_⟩
    ·have hne:a ≠ (T.takeWhile fun a=>Op.bytesLess a s).length:=fun h=>by
      have hkl:(T.takeWhile fun a=>Op.bytesLess a s).length < T.length:=by omega
      have:=tw_end hkl
      have e:T[a] = T[(T.takeWhile fun a=>Op.bytesLess a s).length]:=by congr 1
      rw [e] at hbl
      rw [hbl] at this; cases this
     refine ⟨⟨i,a + 1,s,0⟩,⟨by rw [wrapN (by omega)]⟩,⟨rfl⟩,⟨hi,hes,by show a + 1≤((nmsR (metL tick (l.take i))).takeWhile fun a=>Op.bytesLess a s).length; rw [hT]; omega⟩,hlk1,by show (outR l tick i).length - (a + 1) < _; omega⟩
    ·rcases Nat.lt_or_eq_of_le hak with h | h
     ·obtain ⟨_,hp⟩:=tw_at h
      have hp:Op.bytesLess T[a] s = true:=hp
      rw [hp] at hbl; cases hbl
     ·exact h
   ·have hge1:=of_decide_eq_false hge1
    exact out (by omega)
  ·
   obtain ⟨i,a,s,j⟩:=x1
   simp only at hx1 hlk1 ⊢
   obtain ⟨hi,⟨e,hei,her,hes⟩,hak⟩:=hx1
   have hix:=natI hlk1
   subst hix
   obtain ⟨T,hT⟩:∃ T,nmsR (metL tick (l.take x)) = T:=⟨_,rfl⟩
   have hTl:(outR l tick x).length = T.length:=by rw [outR_len,hT]
   have hTs:=hol x
   rw [hTl] at hTs
   rw [hml,hTl]
   refine ⟨⟨fun hlt1=>?_,fun hge1=>?_⟩,fun x2 hx2 hlk2=>?_⟩
   ·have hlt1:=of_decide_eq_true hlt1
    have haT:a < T.length:=by omega
    have hat:(outR l tick x)[a]? = some (mkOf (metL tick l) T[a]):=by subst hT; exact outR_at haT
    refine ⟨⟨by omega,hlt1⟩,T[a],by rw [Int.toNat_natCast]; exact take_mk9 hat,fun hb=>?_,fun hb=>?_⟩
    ·have hb:T[a] = s:=by simpa using hb
     refine ⟨x + 1,⟨?_⟩,⟨rfl⟩,hi,by omega⟩
     rw [wrapN (by omega),outR_old hei her (by rw [hes,← hak,hT,List.getElem?_eq_getElem haT,hb])]
    ·have hb:¬ T[a] = s:=by simpa using hb
     exact ⟨⟨x,a,s,0⟩,⟨rfl⟩,⟨rfl⟩,⟨hi,⟨e,hei,her,hes⟩,hak,by show (nmsR (metL tick (l.take x)))[a]? ≠ some s; rw [hT,List.getElem?_eq_getElem haT]; simpa using hb⟩,rfl⟩
   ·have hge1:=of_decide_eq_false hge1
    exact ⟨⟨x,a,s,0⟩,⟨rfl⟩,⟨rfl⟩,⟨hi,⟨e,hei,her,hes⟩,hak,by show (nmsR (metL tick (l.take x)))[a]? ≠ some s; rw [hT,List.getElem?_eq_none (by omega)]; simp⟩,rfl⟩
   ·clear hTl hTs hT T hak hes her hei e
    obtain ⟨i,a,s,j⟩:=x2
    simp only at hx2 hlk2 ⊢
    obtain ⟨hi,hes,hak,hno⟩:=hx2
    have hix:=natI hlk2
    subst hix
    refine ⟨⟨⟨x,a,s,0⟩,⟨rfl⟩,⟨rfl⟩,⟨hi,hes,hak,hno,Nat.zero_le _,fun k hk=>absurd hk (Nat.not_lt_zero _),rfl⟩,rfl⟩,fun x3 hx3 hlk3=>?_⟩
    clear hak hno hes
    obtain ⟨i,a,s,j⟩:=x3
    simp only at hx3 hlk3 ⊢
    obtain ⟨hi,⟨e,hei,her,hes⟩,hak,hno,hzj,hzh,hzn⟩:=hx3
    have hix:=natI hlk3
    subst hix
    refine ⟨_,⟨c42 hl⟩,fun hb=>?_,fun hb=>?_⟩
    ·have hj2:j + 1≤(metL tick l).length:=pigeon (s:=s) fun k hk=>by
      rcases Nat.lt_or_eq_of_le (Nat.lt_succ_iff.1 hk) with h | h
      ·exact hzh k h
      ·subst h; exact hb
     refine ⟨⟨x,a,s,j + 1⟩,⟨rfl⟩,⟨?_⟩,⟨hi,⟨e,hei,her,hes⟩,hak,hno,hj2,fun k hk=>?_,?_⟩,rfl,by show (metL tick l).length - (j + 1) < (metL tick l).length - j; omega⟩
     ·rw [show (j:Int) + 1 + 1 = ((j + 1:Nat):Int) + 1 by omega,wrapN (by omega)]
      rfl
     ·show hasId (metL tick l) s ((k:Int) + 1) = true
      rcases Nat.lt_or_eq_of_le (Nat.lt_succ_iff.1 hk) with h | h
      ·exact hzh k h
      ·subst h; exact hb
     ·show nextF (hasId (metL tick l) s) ((metL tick l).length - (j + 1)) (((j + 1:Nat):Int) + 1) = nextM (metL tick l) s
      rw [← hzn,show (metL tick l).length - j = ((metL tick l).length - (j + 1)) + 1 by omega,nextF_go hb]
      rfl
    ·have hnx:nextM (metL tick l) s = (j:Int) + 1:=by rw [← hzn]; exact nextF_stop hb
     have hal:a≤(outR l tick x).length:=by rw [outR_len,hak]; exact (List.takeWhile_prefix _).length_le
     have hox:=hol x
     have hnew:=outR_new (k:=a) hei her (by rw [hes]; exact hak) (by rw [hes]; exact hno)
     rw [hes] at hnew
     have hmm:mkA (mkOf (metL tick l) s) = .agg [.str s,.int .i64 ((j:Int) + 1)]:=by simp only [mkA,mkOf,hnx]
     have hnewA:mksL (outR l tick (x + 1)) = mksL ((outR l tick x).take a) ++ ([.agg [.str s,.int .i64 ((j:Int) + 1)]] ++ mksL ((outR l tick x).drop a)):=by
      rw [hnew,← hmm]; simp [mksL]
     have hDR:List.drop a (List.take (mksL (outR l tick x)).length (mksL (outR l tick x))) = mksL ((outR l tick x).drop a):=by rw [List.take_length,← List.map_drop]
     have hTK:List.drop 0 (List.take a (mksL (outR l tick x))) = mksL ((outR l tick x).take a):=by rw [List.drop_zero,← List.map_take]
     rw [Int.toNat_natCast,hDR,hTK]
     have hdl:(mksL ((outR l tick x).drop a)).length≤2000000:=by rw [List.length_map,List.length_drop]; omega
     have htl:(mksL ((outR l tick x).take a)).length≤2000000:=by rw [List.length_map,List.length_take]; omega
     have hml':=hml x
     have fin:∀ r,r = mksL (outR l tick (x + 1))→∃ y:Nat,ValsAre [.sl 40 (ensL l) .no,.int .i64 tick,.sl 2 r .no,.int .i64 (IntKind.i64.wrap ((x:Int) + 1))] [.sl 40 (ensL l) .no,.int .i64 tick,.sl 2 (mksL (outR l tick y)) .no,.int .i64 y]∧StIs ⟨[],[]⟩ ⟨[],[]⟩∧y≤l.length∧l.length - y < l.length - x:=fun r hr=>⟨x + 1,⟨by rw [wrapN (by omega),hr]⟩,⟨rfl⟩,hi,by omega⟩
     refine ⟨by omega,⟨by omega,Nat.le_refl _⟩,.inl trivial,.inl trivial,by omega,fun hd=>⟨by omega,⟨Nat.zero_le _,by omega⟩,.inl trivial,.inl trivial,by omega,fun ht=>⟨.inl trivial,by omega,fin _ ?_⟩,fun ht=>⟨.inl trivial,by simp only [List.nil_append]; omega,by simp,fin _ ?_⟩⟩,fun hd=>⟨by omega,⟨Nat.zero_le _,by omega⟩,.inl trivial,.inl trivial,by omega,fun ht=>⟨.inl trivial,by simp only [List.length_append,List.length_cons,List.length_nil]; omega,fun h=>by simp at h,fun _=>fin _ ?_⟩,fun ht=>⟨.inl trivial,by simp only [List.nil_append,List.length_append,List.length_cons,List.length_nil]; omega,by simp,fin _ ?_⟩⟩⟩
     ·rw [hnewA,hd,ht]; rfl
     ·rw [hnewA,hd]; simp
     ·rw [hnewA,ht]
     ·rw [hnewA]; simp
 ·have hge:=of_decide_eq_false hge
  obtain rfl:x = l.length:=by omega
  rw [outR_all]
  exact ⟨⟨rfl,rfl,.inl rfl⟩,rfl,rfl⟩
theorem o16 (m:Int):SpecOk PI (GI m) 16 s15:=lax_of (X:=XMa) (m:=[]) mixedI (tbl_cons (o42 m) tbl_nil) itbl_nil fun args r h=>by
 unfold s15 at h
 split at h
 case h_2=>cases h
 split at h
 case isFalse=>cases h
 rename_i hc
 obtain ⟨rfl,hl⟩:=hc
 split at h
 case h_2=>cases h
 rename_i l hu
 obtain rfl:=unEs_inv hu
 split at h
 case isFalse=>cases h
 injection h with h; subst h
 rw [List.length_map] at hl
 exact ⟨_,p16 m l _ hl⟩
theorem SpecOk.wkG {P:Program} {G:Glob} {f:FuncId} {s:Spec} (hs:SpecOk P G f s) {g:AV→AV} (hr:∀ {E:Env} {w:World} {a:AV} {v:Value},Rep E w a v→Rep E w (g a) v) (hc:∀ {a:AV},a.closed1 = true→(g a).closed1 = true):SpecOk P G f fun args=>s (args.map g):=by
 intro f' args r lv hrr E w vs hI hG hn hv hcl
 refine hs f' (args.map g) r lv hrr E w vs hI hG (by simpa using hn) (fun i c v hi hv'=>?_) fun c hc'=>?_
 ·rw [List.getElem?_map] at hi
  cases ha:args[i]? with
  | none=>rw [ha] at hi; cases hi
  | some a =>
   rw [ha] at hi
   injection hi with hi; subst hi
   exact hr (hv i a v ha hv')
 ·obtain ⟨a,ha,rfl⟩:=List.mem_map.1 hc'
  exact hc (hcl a ha)
def wkN:AV→AV
 | .sl sz es _=>.sl sz es .no
 | a=>a
theorem wkN_rep {E:Env} {w:World} {a:AV} {v:Value} (h:Rep E w a v):Rep E w (wkN a) v:=by
 unfold wkN
 split
 ·cases h with
  | sl _ _ _ A cap u hcap hmax hA hsz hcl ho hr h1=>exact .sl _ _ .no A cap u hcap hmax hA hsz hcl trivial hr h1
 ·exact h
theorem wkN_closed {a:AV} (h:a.closed1 = true):(wkN a).closed1 = true:=by
 unfold wkN
 split
 ·rfl
 ·exact h
def wkCs:List AV→List AV
 | _ :: a :: b :: c :: d :: e :: f :: g :: h :: i :: j :: l=>.opq :: a :: b :: c :: d :: e :: f :: g :: h :: i :: wk0 j :: l.map fun _=>.opq
 | l=>l
def wkEn:AV→AV
 | .agg cs=>.agg (wkCs cs)
 | a=>a
def wkEs:AV→AV
 | .sl sz es _=>.sl sz (es.map wkEn) .no
 | a=>a
theorem wkCs_len (cs:List AV):(wkCs cs).length = cs.length:=by
 unfold wkCs
 split
 ·simp
 ·rfl
theorem wkCs_at {cs:List AV} {i:Nat} {c:AV} (h:(wkCs cs)[i]? = some c):∃ d,cs[i]? = some d∧(c = d∨c = .opq∨c = wk0 d):=by
 unfold wkCs at h
 split at h
 ·match i,h with
  | 0,h=>simp at h; subst h; exact ⟨_,rfl,.inr (.inl rfl)⟩
  | 1,h=>simp at h; subst h; exact ⟨_,rfl,.inl rfl⟩
  | 2,h=>simp at h; subst h; exact ⟨_,rfl,.inl rfl⟩
  | 3,h=>simp at h; subst h; exact ⟨_,rfl,.inl rfl⟩
  | 4,h=>simp at h; subst h; exact ⟨_,rfl,.inl rfl⟩
  | 5,h=>simp at h; subst h; exact ⟨_,rfl,.inl rfl⟩
  | 6,h=>simp at h; subst h; exact ⟨_,rfl,.inl rfl⟩
  | 7,h=>simp at h; subst h; exact ⟨_,rfl,.inl rfl⟩
  | 8,h=>simp at h; subst h; exact ⟨_,rfl,.inl rfl⟩
  | 9,h=>simp at h; subst h; exact ⟨_,rfl,.inl rfl⟩
  | 10,h=>simp at h; subst h; exact ⟨_,rfl,.inr (.inr rfl)⟩
  | i + 11,h =>
   simp only [List.getElem?_cons_succ,List.getElem?_map,Option.map_eq_some_iff] at h
   obtain ⟨d,h1,h2⟩:=h
   exact ⟨d,by simpa using h1,.inr (.inl h2.symm)⟩
 ·exact ⟨c,h,.inl rfl⟩
theorem wkEn_cells {a:AV} {j:Nat} {c:AV} (h:(wkEn a).cells[j]? = some c):∃ d,a.cells[j]? = some d∧(c = d∨c = .opq∨c = wk0 d):=by
 unfold wkEn at h
 split at h
 ·exact wkCs_at h
 ·exact ⟨c,h,.inl rfl⟩
theorem wkEn_len (a:AV):(wkEn a).cells.length = a.cells.length:=by
 unfold wkEn
 split
 ·exact wkCs_len _
 ·rfl
theorem wkEn_closed {a:AV} (h:a.closed1 = true):(wkEn a).closed1 = true:=by
 unfold wkEn
 split
 ·rename_i cs
  simp only [AV.closed1,List.all_eq_true] at h ⊢
  intro c hc
  obtain ⟨i,hi⟩:=List.mem_iff_getElem?.1 hc
  obtain ⟨d,h1,h2⟩:=wkCs_at hi
  have hd:=h d (List.mem_of_getElem? h1)
  rcases h2 with rfl | rfl | rfl
  ·exact hd
  ·rfl
  ·exact wk0_closed hd
 ·exact h
theorem wkEs_rep {E:Env} {w:World} {a:AV} {v:Value} (h:Rep E w a v):Rep E w (wkEs a) v:=by
 unfold wkEs
 split
 ·cases h with
  | sl sz' es' _ A cap u hcap hmax hA hsz hcl ho hr h1 =>
   rename_i sz es o
   have hel:∀ (i:Nat) (e:AV),(es.map wkEn)[i]? = some e→∃ e0,es[i]? = some e0∧e = wkEn e0:=fun i e he=>by
    rw [List.getElem?_map] at he
    cases h0:es[i]? with
    | none=>rw [h0] at he; cases he
    | some e0=>rw [h0] at he; injection he with he; exact ⟨e0,rfl,he.symm⟩
   have hlen:(es.map wkEn).length = es.length:=List.length_map ..
   rw [← hlen]
   refine .sl sz _ .no A cap u (by rw [hlen]; exact hcap) hmax ?_ ?_ ?_ trivial ?_ h1
   ·rcases hA with rfl | ⟨b,off,rfl,hA⟩
    ·exact .inl rfl
    ·refine .inr ⟨b,off,rfl,fun i e j c hi hj=>?_⟩
     obtain ⟨e0,h0,rfl⟩:=hel i e hi
     obtain ⟨d,h2,_⟩:=wkEn_cells hj
     exact hA i e0 j d h0 h2
   ·intro e he
    obtain ⟨e0,h0,rfl⟩:=List.mem_map.1 he
    rw [wkEn_len]; exact hsz e0 h0
   ·intro e he
    obtain ⟨e0,h0,rfl⟩:=List.mem_map.1 he
    exact wkEn_closed (hcl e0 h0)
   ·intro i e j c hi hj
    obtain ⟨e0,h0,rfl⟩:=hel i e hi
    obtain ⟨d,h2,h3⟩:=wkEn_cells hj
    have hd:=hr i e0 j d h0 h2
    rcases h3 with rfl | rfl | rfl
    ·exact hd
    ·exact .opq _ (h1 i j)
    ·exact wk0_rep hd
 ·exact h
theorem wkEs_closed {a:AV} (h:a.closed1 = true):(wkEs a).closed1 = true:=by
 unfold wkEs
 split
 ·rfl
 ·exact h
def s15x:Spec:=fun args=>s15 (args.map wkEs)
theorem o15x (m:Int):SpecOk PI (GI m) 15 s15x:=(o15 m).wkG (g:=wkEs) wkEs_rep wkEs_closed
def s14x:Spec:=fun args=>s14 (args.map wkN)
theorem o14x (m:Int):SpecOk PI (GI m) 14 s14x:=(o14 m).wkG (g:=wkN) wkN_rep wkN_closed
def s21x:Spec:=fun args=>s21 (args.map wk1)
theorem o21x (m:Int):SpecOk PI (GI m) 21 s21x:=(o21 m).wk
def s23x:Spec:=fun args=>s23 (args.map wk1)
theorem o23x (m:Int):SpecOk PI (GI m) 23 s23x:=(o23 m).wk
noncomputable abbrev tEx:List (FuncId × Spec):=[(10,s10w),(12,s12w),(14,s14x),(15,s15x),(20,s20),(21,s21x),(22,s22),(23,s23x),(24,s24)]
theorem tEx_ok (m:Int):CalleeOk PI (GI m) (tbl tEx):=tbl_cons (o10w m) (tbl_cons (o12w m) (tbl_cons (o14x m) (tbl_cons (o15x m) (tbl_cons (o20 m) (tbl_cons (o21x m) (tbl_cons (o22 m) (tbl_cons (o23x m) (tbl_cons (o24 m) tbl_nil))))))))
theorem run7 (m:Int):(evs PI (GI m) (tbl tEx) (fun _=>[]) 9).1 7 [] = some (.bool true,[]):=by kernel_rfl
theorem o7 (m:Int):SpecOk PI (GI m) 7 s7:=spec_run mixedI (tEx_ok m) fun args r h=>by
 unfold s7 at h
 split at h
 case h_2=>cases h
 injection h with h; subst h
 exact ⟨9,run7 m⟩
end Go.Abs
namespace Go.Abs
open Go.Proofs
def a4 (l:List EnI) (tick:Int):Anns:=⟨fun k=>if k = 4 then some { α:=Nat,slots:=[0,1,5],nb:=0,vals:=fun n=>[.sl 40 (ensL l) .no,.int .i64 tick,.int .i64 n],sS:=fun _=>⟨[],[]⟩,I:=fun n=>n≤l.length,μ:=fun n=>l.length - n } else none,nA⟩
abbrev t4:List (FuncId × Spec):=[(7,s7),(9,s9),(15,s15),(16,s15),(14,s14)]
theorem w4 (m:Int) (l:List EnI) (tick:Int):(pureW PI (GI m) XMa (tbl t4) (itbl []) (a4 l tick) [] 4 [.sl 40 (ensL l) .no,.int .i64 tick] (.bool true,[])) =
(∃ (b:Bool),
  CallIs (some (AV.bool true,[])) (AV.bool b) [] ∧
    (b = true →
        (∃ (y:Nat),
 ValsAre [AV.sl ((40:Nat)) (ensL l) Own.no,AV.int IntKind.i64 tick,AV.int IntKind.i64 (0:Int)]
 [AV.sl ((40:Nat)) (ensL l) Own.no,AV.int IntKind.i64 tick,AV.int IntKind.i64 (↑y:Int)] ∧
 StIs { boxes:=[],live:=[] } { boxes:=[],live:=[] }∧y≤l.length∧True) ∧
 ∀ (x:Nat),
 x≤l.length →
 (decide ((↑x:Int) < (↑(ensL l).length:Int)) = true →
 (decide ((↑x:Int) < (61:Int)) = true →
 ((0:Int)≤(↑x:Int)∧(↑x:Int) < (↑(ensL l).length:Int)) ∧
 ∃ (s:List UInt8),
 ∃ (n:Int),
 ∃ (n_1:Int),
 ∃ (n_2:Int),
 ∃ (s_1:List UInt8),
 ∃ (s_2:List UInt8),
 ∃ (n_3:Int),
 ∃ (es:List AV),
 takeAt PI ((33:Nat)) (ensL l) (↑x:Int).toNat ((3:Nat)) =
 some
 (AV.agg
 [AV.str s,AV.int IntKind.i64 n,AV.int IntKind.i64 n_1,AV.int IntKind.i64 n_2,AV.str s_1,AV.str s_2,
 AV.int IntKind.i64 n_3,AV.sl ((3:Nat)) es Own.no]) ∧
 ∃ (b:Bool),
 CallIs
 (tbl [((7:Nat),s7),((9:Nat),s9),((15:Nat),s15),((16:Nat),s15),((14:Nat),s14)] ((9:Nat))
 [AV.agg
 [AV.str s,AV.int IntKind.i64 n,AV.int IntKind.i64 n_1,AV.int IntKind.i64 n_2,AV.str s_1,AV.str s_2,
 AV.int IntKind.i64 n_3,AV.sl ((3:Nat)) es Own.no]])
 (AV.bool b) [] ∧
 (b = true →
 ∃ (y:Nat),
 ValsAre
 [AV.sl ((40:Nat)) (ensL l) Own.no,AV.int IntKind.i64 tick,
 AV.int IntKind.i64 (IntKind.i64.wrap ((↑x:Int) + (1:Int)))]
 [AV.sl ((40:Nat)) (ensL l) Own.no,AV.int IntKind.i64 tick,AV.int IntKind.i64 (↑y:Int)] ∧
 StIs { boxes:=[],live:=[] } { boxes:=[],live:=[] } ∧
 y≤l.length∧l.length - y < l.length - x) ∧
 (b = false→RetIs (AV.bool true) [] (AV.bool true,[]))) ∧
 (decide ((↑x:Int) < (61:Int)) = false →
 (decide ((↑(ensL l).length:Int) > (60:Int)) = true→RetIs (AV.bool true) [] (AV.bool true,[])) ∧
 (decide ((↑(ensL l).length:Int) > (60:Int)) = false →
 ∃ (es:List AV),
 CallIs
 (tbl [((7:Nat),s7),((9:Nat),s9),((15:Nat),s15),((16:Nat),s15),((14:Nat),s14)] ((15:Nat))
 [AV.sl ((40:Nat)) (ensL l) Own.no,AV.int IntKind.i64 tick])
 (AV.sl ((2:Nat)) es Own.no) [] ∧
 ∃ (es_1:List AV),
 CallIs
 (tbl [((7:Nat),s7),((9:Nat),s9),((15:Nat),s15),((16:Nat),s15),((14:Nat),s14)] ((16:Nat))
 [AV.sl ((40:Nat)) (ensL l) Own.no,AV.int IntKind.i64 tick])
 (AV.sl ((2:Nat)) es_1 Own.no) [] ∧
 ∃ (b:Bool),
 CallIs
 (tbl [((7:Nat),s7),((9:Nat),s9),((15:Nat),s15),((16:Nat),s15),((14:Nat),s14)] ((14:Nat))
 [AV.sl ((2:Nat)) es Own.no,AV.sl ((2:Nat)) es_1 Own.no])
 (AV.bool b) [] ∧
 (b = true→RetIs (AV.bool true) [] (AV.bool true,[]))∧(b = false→RetIs (AV.bool false) [] (AV.bool true,[]))))) ∧
 (decide ((↑x:Int) < (↑(ensL l).length:Int)) = false →
 (decide ((↑(ensL l).length:Int) > (60:Int)) = true→RetIs (AV.bool true) [] (AV.bool true,[])) ∧
 (decide ((↑(ensL l).length:Int) > (60:Int)) = false →
 ∃ (es:List AV),
 CallIs
 (tbl [((7:Nat),s7),((9:Nat),s9),((15:Nat),s15),((16:Nat),s15),((14:Nat),s14)] ((15:Nat))
 [AV.sl ((40:Nat)) (ensL l) Own.no,AV.int IntKind.i64 tick])
 (AV.sl ((2:Nat)) es Own.no) [] ∧
 ∃ (es_1:List AV),
 CallIs
 (tbl [((7:Nat),s7),((9:Nat),s9),((15:Nat),s15),((16:Nat),s15),((14:Nat),s14)] ((16:Nat))
 [AV.sl ((40:Nat)) (ensL l) Own.no,AV.int IntKind.i64 tick])
 (AV.sl ((2:Nat)) es_1 Own.no) [] ∧
 ∃ (b:Bool),
 CallIs
 (tbl [((7:Nat),s7),((9:Nat),s9),((15:Nat),s15),((16:Nat),s15),((14:Nat),s14)] ((14:Nat))
 [AV.sl ((2:Nat)) es Own.no,AV.sl ((2:Nat)) es_1 Own.no])
 (AV.bool b) [] ∧
 (b = true→RetIs (AV.bool true) [] (AV.bool true,[]))∧(b = false→RetIs (AV.bool false) [] (AV.bool true,[]))))) ∧
      (b = false→RetIs (AV.bool false) [] (AV.bool true,[]))):=by kernel_rfl
end Go.Abs
namespace Go.Abs
open Go.Proofs Go.RowKit
def enOk (e:EnI):Prop:=e.f.src.length≤140737488351232∧e.f.table.length≤140737488351232∧e.f.key.length≤140737488351232∧e.f.fs.length≤140737488351232∧-9223372036854775808≤e.f.seq∧e.f.seq≤9223372036854775807
theorem take_enf {l:List EnI} {i:Nat} {e:EnI} (h:l[i]? = some e):takeAt PI 33 (ensL l) i 3 = some (fcA e.f):=by
 simp only [takeAt,List.getElem?_map,h,Option.map_some,takeA,agg33,size33]
 rfl
theorem c9m {f:FcI} (h:f.src.length≤140737488351232∧f.table.length≤140737488351232∧f.key.length≤140737488351232∧f.fs.length≤140737488351232):tbl t4 9 [fcA f] = some (.bool (smallB f),[]):=by
 rw [tbl_miss (by decide),tbl_hit]
 unfold fcA s9
 simp only [if_true]
 rw [show unL unV (vasL f.fs) = some f.fs from unL_map unV_ok f.fs]
 simp only
 rw [if_pos h]
theorem c15m {l:List EnI} {tick:Int} (hl:l.length≤60) (hi:idsOk l = true):s15 [.sl 40 (ensL l) .no,.int .i64 tick] = some (.sl 2 (mksL (marksM (metL tick l))) .no,[]):=by
 simp only [s15,unEs_ok]
 rw [if_pos ⟨trivial,by rw [List.length_map]; omega⟩,if_pos hi]
theorem p4 (m:Int) (l:List EnI) (tick:Int) (he:∀ e ∈ l,enOk e):PureOk PI (GI m) XMa (tbl t4) (itbl []) (a4 l tick) [] 4 [.sl 40 (ensL l) .no,.int .i64 tick] (.bool true,[]):=by
 constructor
 rw [w4]
 have hll:(ensL l).length = l.length:=List.length_map ..
 rw [hll]
 have hi:idsOk l = true:=List.all_eq_true.2 fun e h=>by
  obtain ⟨h1,_,_,_,h2,h3⟩:=he e h
  simp [h1,h2,h3]
 have fin:(decide ((l.length:Int) > 60) = true→RetIs (.bool true) [] (.bool true,[]))∧(decide ((l.length:Int) > 60) = false→∃ es:List AV,CallIs (tbl t4 15 [.sl 40 (ensL l) .no,.int .i64 tick]) (.sl 2 es .no) []∧∃ es_1:List AV,CallIs (tbl t4 16 [.sl 40 (ensL l) .no,.int .i64 tick]) (.sl 2 es_1 .no) []∧∃ b:Bool,CallIs (tbl t4 14 [.sl 2 es .no,.sl 2 es_1 .no]) (.bool b) []∧(b = true→RetIs (.bool true) [] (.bool true,[]))∧(b = false→RetIs (.bool false) [] (.bool true,[]))):=by
  refine ⟨fun _=>⟨rfl⟩,fun h60=>?_⟩
  have h60:=of_decide_eq_false h60
  have hl:l.length≤60:=by omega
  have hk:(marksM (metL tick l)).length≤2000000:=by
   have h1:=nmsR_len (metL tick l)
   have h2:=metL_len tick l
   simp only [marksM,List.length_map]
   rw [← nmsR_eq]; omega
  refine ⟨_,⟨by rw [tbl_miss (by decide),tbl_miss (by decide),tbl_hit]; exact c15m hl hi⟩,_,⟨by rw [tbl_miss (by decide),tbl_miss (by decide),tbl_miss (by decide),tbl_hit]; exact c15m hl hi⟩,true,⟨?_⟩,fun _=>⟨rfl⟩,fun h=>(by cases h)⟩
  rw [tbl_miss (by decide),tbl_miss (by decide),tbl_miss (by decide),tbl_miss (by decide),tbl_hit]
  simp only [s14,and_self,if_true]
  rw [show unL unM (mksL (marksM (metL tick l))) = some (marksM (metL tick l)) from unL_map (f:=unM) (g:=mkA) (fun x=>rfl) _]
  simp only
  rw [if_pos hk]; simp
 refine ⟨true,⟨rfl⟩,fun _=>⟨⟨0,⟨rfl⟩,⟨rfl⟩,Nat.zero_le _,trivial⟩,fun x hx=>⟨fun hlt=>⟨fun h61=>?_,fun _=>fin⟩,fun _=>fin⟩⟩,fun h=>(by cases h)⟩
 have h61:=of_decide_eq_true h61
 have hlt:=of_decide_eq_true hlt
 have hxl:x < l.length:=by omega
 have hg:=List.getElem?_eq_getElem hxl
 obtain ⟨h1,h2,h3,h4,_⟩:=he _ (List.getElem_mem hxl)
 exact ⟨⟨by omega,hlt⟩,_,_,_,_,_,_,_,_,by rw [Int.toNat_natCast]; exact take_enf hg,_,⟨c9m ⟨h1,h2,h3,h4⟩⟩,fun _=>⟨x + 1,⟨by rw [wrapN (by omega)]⟩,⟨rfl⟩,hxl,by omega⟩,fun _=>⟨rfl⟩⟩
def en4 (l:List EnI):Bool:=l.all fun e=>decide (e.f.src.length≤140737488351232) && decide (e.f.table.length≤140737488351232) && decide (e.f.key.length≤140737488351232) && decide (e.f.fs.length≤140737488351232) && decide (-9223372036854775808≤e.f.seq) && decide (e.f.seq≤9223372036854775807)
theorem en4_iff {l:List EnI}:en4 l = true ↔ ∀ e ∈ l,enOk e:=by
 simp only [en4,List.all_eq_true,Bool.and_eq_true,decide_eq_true_eq,enOk,and_assoc]
def s4m:Spec:=fun args=>match args with
 | [.sl sz es .no,.int .i64 _tick]=>if sz = 40 then (match unL unE es with
  | some l=>if en4 l = true then some (.bool true,[]) else none
  | none=>none) else none
 | _=>none
theorem t4_ok (m:Int):CalleeOk PI (GI m) (tbl t4):=tbl_cons (o7 m) (tbl_cons (o9 m) (tbl_cons (o15 m) (tbl_cons (o16 m) (tbl_cons (o14 m) tbl_nil))))
theorem o4m (m:Int):SpecOk PI (GI m) 4 s4m:=spec_of (X:=XMa) (m:=[]) mixedI (t4_ok m) itbl_nil fun args r h=>by
 unfold s4m at h
 split at h
 case h_2=>cases h
 split at h
 case isFalse=>cases h
 rename_i hz
 subst hz
 split at h
 case h_2=>cases h
 rename_i l hu
 obtain rfl:=unEs_inv hu
 split at h
 case isFalse=>cases h
 rename_i hk
 injection h with h; subst h
 exact ⟨_,p4 m l _ (en4_iff.1 hk)⟩
theorem s4m_true (l:List EnI) (tick:Int) (h:∀ e ∈ l,enOk e):s4m [.sl 40 (ensL l) .no,.int .i64 tick] = some (.bool true,[]):=by
 simp only [s4m,if_true,unEs_ok]
 rw [if_pos (en4_iff.2 h)]
/-! IngestReceives -/
def rc3 (r:List BxI):Bool:=r.all fun b=>decide (b.src.length≤140737488351232) && decide (b.ahead.length≤140737488351232)
def pk3 (p:List PkI):Bool:=p.all fun p=>decide (p.f.src.length≤140737488351232) && decide (p.f.table.length≤140737488351232) && decide (p.f.key.length≤140737488351232) && decide (p.f.fs.length≤140737488351232)
def unQ:AV→Option PkI
 | .agg [.str src,.bool ack,.int .i64 next,.str fsrc,.int .i64 seq,.int .i64 kind,.int .i64 ref,.str table,.str key,.int .i64 event,.sl sz es .no]=>if sz = 3 then (unL unV es).map fun fs=>⟨src,ack,next,⟨fsrc,seq,kind,ref,table,key,event,fs⟩⟩ else none
 | _=>none
theorem unQ_inv (a:AV) (x:PkI) (h:unQ a = some x):a = pkA x:=by
 unfold unQ at h
 split at h
 ·rename_i sz es
  split at h
  ·rename_i hz
   subst hz
   cases hu:unL unV es with
   | none=>rw [hu] at h; cases h
   | some fs =>
    rw [hu] at h
    injection h with h; subst h
    rw [unL_inv unV_inv hu]
    rfl
  ·cases h
 ·cases h
theorem unQ_ok (p:PkI):unQ (pkA p) = some p:=by
 unfold pkA unQ
 simp only [if_true]
 rw [show unL unV (vasL p.f.fs) = some p.f.fs from unL_map unV_ok p.f.fs]
 rfl
def s3:Spec:=fun args=>match args with
 | [.agg [.sl sz es .no],.sl sz2 es2 .no]=>if sz = 3∧sz2 = 11 then (match unL unB es,unL unQ es2 with
  | some r,some p=>if rc3 r = true∧pk3 p = true then some (.bool true,[]) else none
  | _,_=>none) else none
 | _=>none
theorem t3_ok (m:Int):CalleeOk PI (GI m) (tbl t3):=tbl_cons (o7 m) (tbl_cons (o8 m) (tbl_cons (o9 m) (tbl_cons (o10w m) (tbl_cons (o11w m) (tbl_cons (o12w m) (tbl_cons (o13 m) tbl_nil))))))
theorem o3 (m:Int):SpecOk PI (GI m) 3 s3:=spec_of (X:=X3) (m:=[]) mixedI (t3_ok m) itbl_nil fun args r h=>by
 unfold s3 at h
 split at h
 case h_2=>cases h
 split at h
 case isFalse=>cases h
 rename_i hz
 obtain ⟨rfl,rfl⟩:=hz
 split at h
 case h_2=>cases h
 rename_i r p hr hp
 obtain rfl:=unBs_inv hr
 obtain rfl:_ = pksL p:=unL_inv unQ_inv hp
 split at h
 case isFalse=>cases h
 rename_i hk
 injection h with h; subst h
 simp only [rc3,pk3,List.all_eq_true,Bool.and_eq_true,decide_eq_true_eq,and_assoc] at hk
 exact ⟨_,p3 m r p hk.1 hk.2⟩
theorem s3_true (r:List BxI) (p:List PkI) (h1:rc3 r = true) (h2:pk3 p = true):s3 [.agg [.sl 3 (bxsL r) .no],.sl 11 (pksL p) .no] = some (.bool true,[]):=by
 simp only [s3,and_self,if_true,unBs_ok]
 rw [show unL unQ (pksL p) = some p from unL_map unQ_ok p]
 simp only
 rw [if_pos ⟨h1,h2⟩]
end Go.Abs
namespace Go.Abs
open Go.ChangeShapes Go.WideShapes Go.ChangeAt Go.RowKit Go.Deep Go.ChangeMaps
open Go.Proofs Go.Proofs.Ytpglogahncpnoaa
section
variable {H : Type} {enc : TypeId × Value → H} {P : Program} {W : World}
def ElemR (P:Program) (W:World) (enc:TypeId × Value→H) (e:TypeId) {α:Type} (g:α→AV) (Q:α→DataW H→Prop):Prop:=
 ∀ n cs x,DataW.trod enc P W 0 (fun _=>true) true n e cs = some x→∃ a:α,Q a x.1∧∀ (j:Nat) (c:AV) (u:Value),(g a).cells[j]? = some c→cs[j]? = some u→Rep (oldE W) W c u∧u.oneCell' = true
theorem open_slR {t e:TypeId} {sz:Nat} {α:Type} [Inhabited α] {g:α→AV} {Q:α→DataW H→Prop} (ht:P.underlying t = some (.slice e)) (hc:P.cellsOf e = sz) (hsz:0 < sz) (hg:∀ a,(g a).cells.length = sz∧(g a).closed1 = true) (hel:ElemR P W enc e g Q)
  {v:Value} {d:DataW H} {ps:List MemPlace} (hv:∃ A len cap,v = .slice A len cap) (h:DataW.Trod enc P W 0 (fun _=>true) true t v d ps) :
  ∃ l:List α,Rep (oldE W) W (.sl sz (l.map g) .no) v∧(l = []∨∃ elems spare,d = .slice elems spare∧elems.length = l.length∧∀ (i:Nat) a x,l[i]? = some a→elems[i]? = some x→Q a x):=by
 obtain ⟨a,len,cap,rfl⟩:=hv
 obtain ⟨fuel,h⟩:=h
 rcases open_slice ht h with ⟨hcs,_⟩ | ⟨a',len',cap',m,n,D,Pl,hcs,hb,hl,hmx,hm,hx,hels⟩
 ·simp [Value.cells] at hcs
  obtain ⟨rfl,rfl,rfl⟩:=hcs
  exact ⟨[],.sl sz [] .no none 0 (fun _ _=>.bool false) (by simp) (by simp [maxLen]) (.inl rfl) (by simp) (by simp) trivial (by simp) (fun _ _=>rfl),.inl rfl⟩
 ·simp [Value.cells] at hcs
  obtain ⟨rfl,rfl,rfl⟩:=hcs
  have hm':m = cap:=by simpa using hm
  have hch:∀ i,i < len→∃ x:α × List Value,x.2.length = sz∧(∀ j,j < sz→W.cell? (a'.add (i * sz + j)) = x.2[j]?)∧Q x.1 (D i)∧∀ (j:Nat) (c:AV) (u:Value),(g x.1).cells[j]? = some c→x.2[j]? = some u→Rep (oldE W) W c u∧u.oneCell' = true:=fun i hi=>by
   obtain ⟨cs,hcs,ht'⟩:=hels i (by omega)
   rw [hc] at hcs
   obtain ⟨_,hlen,hat⟩:=World.cells?_some hcs
   obtain ⟨x,hq,hx⟩:=hel n cs _ ht'
   refine ⟨(x,cs),hlen,fun j hj=>?_,hq,hx⟩
   have:=hat j hj
   rw [Go.Deep.add_add] at this
   exact this
  obtain ⟨f,hf⟩:=choose_lt hch
  refine ⟨(List.range len).map fun i=>(f i).1,?_,.inr ?_⟩
  ·have hlen:((List.range len).map fun i=>(f i).1).length = len:=by simp
   have hln:(((List.range len).map fun i=>(f i).1).map g).length = len:=by simp
   have hget:∀ (i:Nat) (e':AV),(((List.range len).map fun i=>(f i).1).map g)[i]? = some e'→i < len∧e' = g (f i).1:=fun i e' h=>by
    have hi:i < len:=by
     have:=(List.getElem?_eq_some_iff.1 h).1
     simpa using this
    refine ⟨hi,?_⟩
    simp [List.getElem?_range hi] at h
    exact h.symm
   let u:Nat→Nat→Value:=fun i j=>if i < len∧j < sz then ((f i).2[j]?).getD (.bool false) else .bool false
   have hu:∀ i j,i < len→j < sz→(f i).2[j]? = some (u i j):=fun i j hi hj=>by
    have h2:j < (f i).2.length:=by rw [(hf i hi).1]; exact hj
    simp only [u,hi,hj,and_self,if_true,List.getElem?_eq_getElem h2,Option.getD_some]
   have key:=Rep.sl (E:=oldE W) (w:=W) sz (((List.range len).map fun i=>(f i).1).map g) .no (some a') cap u (by rw [hln]; exact hl) hmx ?_ ?_ ?_ trivial ?_ ?_
   ·rw [hln] at key; exact key
   ·rcases Nat.eq_zero_or_pos len with h0 | h0
    ·left; subst h0; rfl
    ·right
     have h1:=(hf 0 h0).2.1 0 hsz
     rw [hu 0 0 h0 hsz] at h1
     have hadd:a'.add (0 * sz + 0) = a':=by unfold Addr.add; simp
     rw [hadd] at h1
     have hp:=addr_plain h1
     refine ⟨a'.block,a'.off,by rw [← hp],fun i e' j c hi hj=>?_⟩
     obtain ⟨hlt,rfl⟩:=hget i e' hi
     have hjs:j < sz:=by
      have:=(List.getElem?_eq_some_iff.1 hj).1
      rw [(hg _).1] at this; exact this
     have h2:=(hf i hlt).2.1 j hjs
     rw [hu i j hlt hjs,hp,addp] at h2
     have e:a'.off + i * sz + j = a'.off + (i * sz + j):=by omega
     refine ⟨cell_lt h1,by rw [e]; exact h2⟩
   ·intro e' he
    obtain ⟨x,hx,rfl⟩:=List.mem_map.1 he
    exact (hg x).1
   ·intro e' he
    obtain ⟨x,hx,rfl⟩:=List.mem_map.1 he
    exact (hg x).2
   ·intro i e' j c hi hj
    obtain ⟨hlt,rfl⟩:=hget i e' hi
    have hjs:j < sz:=by
     have:=(List.getElem?_eq_some_iff.1 hj).1
     rw [(hg _).1] at this; exact this
    exact ((hf i hlt).2.2.2 j c (u i j) hj (hu i j hlt hjs)).1
   ·intro i j
    by_cases hij:i < len∧j < sz
    ·have hjs:j < (g (f i).1).cells.length:=by rw [(hg _).1]; exact hij.2
     exact ((hf i hij.1).2.2.2 j _ (u i j) (List.getElem?_eq_getElem hjs) (hu i j hij.1 hij.2)).2
    ·simp only [u,if_neg hij]; rfl
  ·have hx1:=congrArg Prod.fst hx
   simp only at hx1
   refine ⟨_,_,hx1,by simp,fun i a x hi hxi=>?_⟩
   have hlt:i < len:=by
    have:=(List.getElem?_eq_some_iff.1 hi).1
    simpa using this
   simp [List.getElem?_range hlt] at hi hxi
   subst hi; subst hxi
   exact (hf i hlt).2.2.1
/-! cells that read so -/
def CellsAre (W:World) (l:List AV) (cs:List Value):Prop:=
 l.length = cs.length∧∀ (j:Nat) (c:AV) (u:Value),l[j]? = some c→cs[j]? = some u→Rep (oldE W) W c u∧u.oneCell' = true
theorem CellsAre.one {c:AV} {u:Value} (h:Rep (oldE W) W c u) (h1:u.oneCell' = true):CellsAre W [c] [u]:=⟨rfl,fun j c' u' hc hu=>by
 match j,hc,hu with
 | 0,hc,hu=>simp at hc hu; subst hc; subst hu; exact ⟨h,h1⟩⟩
theorem CellsAre.append {l r:List AV} {cs ds:List Value} (h:CellsAre W l cs) (k:CellsAre W r ds):CellsAre W (l ++ r) (cs ++ ds):=by
 refine ⟨by simp [h.1,k.1],fun j c u hc hu=>?_⟩
 rcases Nat.lt_or_ge j l.length with hj | hj
 ·rw [List.getElem?_append_left hj] at hc
  rw [List.getElem?_append_left (by rw [← h.1]; exact hj)] at hu
  exact h.2 j c u hc hu
 ·rw [List.getElem?_append_right hj] at hc
  rw [List.getElem?_append_right (by rw [← h.1]; exact hj),← h.1] at hu
  exact k.2 _ c u hc hu
theorem CellsAre.next {l r:List AV} {cs:List Value} {o s p:Nat} (h:CellsAre W l ((cs.drop o).take s)) (hp:p = o + s) (k:CellsAre W r (cs.drop p)):CellsAre W (l ++ r) (cs.drop o):=by
 subst hp
 have:=h.append k
 rwa [← List.drop_drop,List.take_append_drop] at this
theorem CellsAre.last {l:List AV} {cs:List Value} {o s:Nat} (h:CellsAre W l ((cs.drop o).take s)) (hs:cs.length = o + s):CellsAre W l (cs.drop o):=by
 rwa [List.take_of_length_le (by rw [List.length_drop]; omega)] at h
def wmax {H:Type} (P:Program) (t:TypeId) (d:DataW H):Nat:=(DataW.weights P t d).foldr max 0
theorem le_foldr:∀ {l:List Nat} {k:Nat},k ∈ l→k≤l.foldr max 0
 | a :: l,k,h=>by
  simp only [List.foldr_cons]
  rcases List.mem_cons.1 h with rfl | h
  ·omega
  ·have:=le_foldr h; omega
theorem foldr_le:∀ {l:List Nat} {m:Nat},(∀ k ∈ l,k≤m)→l.foldr max 0≤m
 | [],m,_=>Nat.zero_le _
 | a :: l,m,h=>by
  simp only [List.foldr_cons]
  have:=h a List.mem_cons_self
  have:=foldr_le fun k hk=>h k (List.mem_cons_of_mem _ hk)
  omega
theorem wmax_mono {t u:TypeId} {d e:DataW H} (h:∀ k ∈ DataW.weights P t d,k ∈ DataW.weights P u e):wmax P t d≤wmax P u e:=foldr_le fun k hk=>le_foldr (h k hk)
theorem wmax_arg {ts:List TypeId} {ds:List (DataW H)} (h:(DataW.weightsEach P ts ds).all (·≤reachBytes) = true) {j:Nat} {t:TypeId} {d:DataW H} (ht:ts[j]? = some t) (hd:ds[j]? = some d):wmax P t d≤140737488351232:=
 foldr_le fun k hk=>by
  have:=List.all_eq_true.1 h _ (DataW.weights_mem_each ht hd k hk)
  exact of_decide_eq_true this
theorem wmax_field {T t:TypeId} {fs:Array Field} (hu:P.underlying T = some (.struct fs)) {xs:List (DataW H × List MemPlace)} {i:Nat} {f:Field} (hi:fs[i]? = some f) (ht:f.type = t) {y:DataW H × List MemPlace} (hy:xs[i]? = some y):wmax P t y.1≤wmax P T (DataW.agg (xs.map (·.1))):=
 wmax_mono fun k hk=>by
  simp only [DataW.weights,hu]
  refine DataW.weights_mem_each (j:=i) (t:=t) (d:=y.1) ?_ ?_ k hk
  ·rw [List.getElem?_map,Array.getElem?_toList,hi]; simp [ht]
  ·rw [List.getElem?_map,hy]; rfl
theorem weightsAll_mem {e:TypeId}:∀ {l:List (DataW H)} {d:DataW H},d ∈ l→∀ k ∈ DataW.weights P e d,k ∈ DataW.weightsAll P e l
 | x :: l,d,h,k,hk=>by
  simp only [DataW.weightsAll,List.mem_append]
  rcases List.mem_cons.1 h with rfl | h
  ·exact .inl hk
  ·exact .inr (weightsAll_mem h k hk)
def ReadsAs (P:Program) (W:World) (enc:TypeId × Value→H) (t:TypeId) {α:Type} (g:α→List AV) (Q:α→Nat→Prop):Prop:=
 ∀ n cs x,DataW.trod enc P W 0 (fun _=>true) true n t cs = some x→∃ a:α,Q a (wmax P t x.1)∧CellsAre W (g a) cs
theorem reads_str {t:TypeId} (ht:P.underlying t = some .string):ReadsAs P W enc t (fun s:List UInt8=>[.str s]) (fun s n=>s.length≤n):=by
 intro n cs x h
 obtain ⟨s,rfl,rfl,_⟩:=DataW.trod_string ht h
 refine ⟨s.data.toList,?_,.one (mk_str s) rfl⟩
 exact le_foldr (by simp [DataW.weights])
theorem reads_int {t:TypeId} (ht:P.underlying t = some (.int .i64)):ReadsAs P W enc t (fun n:Int=>[.int .i64 n]) (fun n _=>-9223372036854775808≤n∧n≤9223372036854775807):=by
 intro n cs x h
 obtain ⟨k,rfl,_,hw⟩:=DataW.trod_int ht h
 have:=int_rng hw
 exact ⟨k,⟨this.1,by omega⟩,.one (.int _ _) rfl⟩
theorem reads_bool {t:TypeId} (ht:P.underlying t = some .bool):ReadsAs P W enc t (fun b:Bool=>[.bool b]) (fun _ _=>True):=by
 intro n cs x h
 obtain ⟨b,rfl,_⟩:=DataW.trod_bool ht h
 exact ⟨b,trivial,.one (.bool _) rfl⟩
theorem reads_slice {t e:TypeId} {sz:Nat} {α:Type} [Inhabited α] {g:α→AV} {Q:α→Nat→Prop} (ht:P.underlying t = some (.slice e)) (hc:P.cellsOf e = sz) (hsz:0 < sz) (hby:1≤P.bytesOf e) (hg:∀ a,(g a).cells.length = sz∧(g a).closed1 = true) (hel:ReadsAs P W enc e (fun a=>(g a).cells) Q)
  (hQ:∀ a n m,Q a n→n≤m→Q a m):ReadsAs P W enc t (fun l:List α=>[.sl sz (l.map g) .no]) (fun l n=>l.length≤n∧∀ a ∈ l,Q a n):=by
 intro n cs x h
 have hs:∃ A len cap,cs = [.slice A len cap]:=by
  rcases open_slice ht h with ⟨hcs,_⟩ | ⟨a',len',cap',m,n,D,Pl,hcs,_⟩
  ·exact ⟨_,_,_,hcs⟩
  ·exact ⟨_,_,_,hcs⟩
 obtain ⟨A,len,cap,rfl⟩:=hs
 have hel':ElemR P W enc e g (fun a d=>Q a (wmax P e d)):=fun n cs x h=>by
  obtain ⟨a,h1,h2⟩:=hel n cs x h
  exact ⟨a,h1,h2.2⟩
 obtain ⟨l,hl,hb⟩:=open_slR ht hc hsz hg hel' ⟨A,len,cap,rfl⟩ (d:=x.1) (ps:=x.2) ⟨n,by simpa [Value.cells] using h⟩
 refine ⟨l,?_,.one hl rfl⟩
 rcases hb with rfl | ⟨elems,spare,he,hlen,hq⟩
 ·exact ⟨Nat.zero_le _,fun a ha=>by cases ha⟩
 ·rw [he]
  refine ⟨?_,fun a ha=>?_⟩
  ·have h1:(elems.length + spare.length) * P.bytesOf e≤wmax P t (DataW.slice elems spare):=le_foldr (by simp [DataW.weights,ht])
   have h2:=Nat.le_mul_of_pos_right (elems.length + spare.length) hby
   omega
  obtain ⟨i,hi⟩:=List.mem_iff_getElem?.1 ha
  have hlt:i < elems.length:=by rw [hlen]; exact (List.getElem?_eq_some_iff.1 hi).1
  have hx:=List.getElem?_eq_getElem hlt
  refine hQ a _ _ (hq i a _ hi hx) ?_
  refine wmax_mono fun k hk=>?_
  simp only [DataW.weights,ht,List.mem_cons,List.mem_append]
  exact .inr (.inl (weightsAll_mem (List.mem_of_getElem? hx) k hk))
/-! cells of any type -/
theorem sum_at:∀ (L:List Nat) (k:Nat),k < L.sum→∃ j s,L[j]? = some s∧(L.take j).sum≤k∧k < (L.take j).sum + s
 | [],k,h=>by simp at h
 | a :: L,k,h=>by
  by_cases hk:k < a
  ·exact ⟨0,a,rfl,by simp,by simpa using hk⟩
  ·obtain ⟨j,s,h1,h2,h3⟩:=sum_at L (k - a) (by simp at h; omega)
   exact ⟨j + 1,s,h1,by simp; omega,by simp; omega⟩
theorem trod_one (hl:laidOutB P = true):∀ (n:Nat) (t:TypeId) (cs:List Value) (x:DataW H × List MemPlace),isVar P t = true→DataW.trod enc P W 0 (fun _=>true) true n t cs = some x→∀ u ∈ cs,u.oneCell' = true
 | 0,t,cs,x,_,h=>by simp [DataW.trod] at h
 | n + 1,t,cs,x,hv,h=>by
  have hlt:t < P.types.size:=by
   simp only [isVar,Bool.and_eq_true,decide_eq_true_eq] at hv
   exact hv.1
  have hr:=rowFine_of_laidOut hl hlt
  unfold rowFine at hr
  rw [hv] at hr
  simp only [Bool.not_true,Bool.false_or] at hr
  cases hu:P.underlying t with
  | none=>unfold DataW.trod at h; rw [hu] at h; simp at h
  | some d =>
   cases d with
   | struct fs =>
    simp only [hu,Bool.and_eq_true,beq_iff_eq,List.all_eq_true,List.mem_range] at hr
    obtain ⟨xs,m,hm,_,hlen,hxl,hf⟩:=DataW.trod_struct hu h
    obtain rfl:n = m:=by omega
    intro u hm
    obtain ⟨k,hk⟩:=List.mem_iff_getElem?.1 hm
    have hkl:k < cs.length:=(List.getElem?_eq_some_iff.1 hk).1
    rw [hlen,hr.1.2] at hkl
    obtain ⟨j,s,h1,h2,h3⟩:=sum_at _ _ hkl
    rw [List.getElem?_map] at h1
    cases hfj:fs.toList[j]? with
    | none=>rw [hfj] at h1; cases h1
    | some f =>
     rw [hfj] at h1
     injection h1 with h1
     have h1:P.cellsOf f.type = s:=h1
     subst h1
     have hjl:j < fs.toList.length:=(List.getElem?_eq_some_iff.1 hfj).1
     have ho:=hr.2 j hjl
     rw [hfj] at ho
     simp only [beq_iff_eq] at ho
     rw [← List.map_take] at h2 h3
     rw [← ho] at h2 h3
     have hfa:fs[j]? = some f:=by rw [← Array.getElem?_toList]; exact hfj
     have hxj:j < xs.length:=by rw [hxl]; simpa using hjl
     have ht:=hf j f hfa
     rw [List.getElem?_eq_getElem hxj] at ht
     refine trod_one hl n f.type _ _ (hr.1.1 f (List.mem_of_getElem? hfj)) ht u ?_
     refine List.mem_iff_getElem?.2 ⟨k - f.offset,?_⟩
     rw [List.getElem?_take,if_pos (by omega),List.getElem?_drop,show f.offset + (k - f.offset) = k by omega]
     exact hk
   | array m e =>
    simp only [hu,Bool.and_eq_true,beq_iff_eq] at hr
    unfold DataW.trod at h
    rw [hu] at h
    simp only at h
    split at h
    ·rename_i hlen
     simp only [Option.map_eq_some_iff] at h
     obtain ⟨xs,hx,_⟩:=h
     intro u hm
     obtain ⟨k,hk⟩:=List.mem_iff_getElem?.1 hm
     have hkl:k < cs.length:=(List.getElem?_eq_some_iff.1 hk).1
     rw [hlen,hr.2] at hkl
     have hc0:0 < P.cellsOf e:=Nat.pos_of_ne_zero fun h0=>by rw [h0] at hkl; simp at hkl
     have hj:k / P.cellsOf e < m:=(Nat.div_lt_iff_lt_mul hc0).2 hkl
     have hmod:=Nat.div_add_mod k (P.cellsOf e)
     have hml:=Nat.mod_lt k hc0
     rw [Nat.mul_comm] at hmod
     have hg:=mapM_some_get hx (k / P.cellsOf e) (k / P.cellsOf e) (by rw [List.getElem?_range hj])
     have hxl:=mapM_some_length hx
     rw [List.length_range] at hxl
     rw [List.getElem?_eq_getElem (by omega)] at hg
     refine trod_one hl n e _ _ hr.1 hg u ?_
     refine List.mem_iff_getElem?.2 ⟨k % P.cellsOf e,?_⟩
     rw [List.getElem?_take,if_pos hml,List.getElem?_drop,hmod]
     exact hk
    ·cases h
   | _ =>
    unfold DataW.trod at h
    rw [hu] at h
    intro u hm
    split at h <;> first
     | (simp only [List.mem_cons,List.not_mem_nil,or_false] at hm; subst hm; rfl)
     | (cases h; done)
     | (rename_i he _; cases he; done)
     | (rename_i he; cases he; done)
theorem reads_any (hl:laidOutB P = true) {t:TypeId} (hv:isVar P t = true) (hn:∃ d,P.underlying t = some (.struct d)):ReadsAs P W enc t (fun _:Unit=>List.replicate (P.cellsOf t) .opq) (fun _ _=>True):=by
 intro n cs x h
 obtain ⟨d,hd⟩:=hn
 obtain ⟨_,_,_,_,hlen,_⟩:=DataW.trod_struct hd h
 have h1:=trod_one hl n t cs x hv h
 refine ⟨(),trivial,by simp [hlen],fun j c u hc hu=>?_⟩
 have hc':c = .opq:=(List.eq_replicate_iff.1 (rfl:List.replicate (P.cellsOf t) AV.opq = _)).2 c (List.mem_of_getElem? hc)
 subst hc'
 exact ⟨.opq _ (h1 u (List.mem_of_getElem? hu)),h1 u (List.mem_of_getElem? hu)⟩
end
end Go.Abs
