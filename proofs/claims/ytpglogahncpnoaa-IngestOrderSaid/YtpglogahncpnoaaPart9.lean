/- Own texts, part 9. -/
import Derived.Test.YtpglogahncpnoaaPart8
import Derived.Test.YtpglogahncpnoaaPart7
import Derived.Test.YtpglogahncpnoaaPart6

namespace Go.Abs
open Go.Proofs Go.RowKit
theorem agg33:aggA PI 33 = some true:=by kernel_rfl
theorem size33:sizeA PI 33 = some 8:=by kernel_rfl
theorem agg35:aggA PI 35 = some true:=by kernel_rfl
theorem size35:sizeA PI 35 = some 11:=by kernel_rfl
theorem take_fc {l:List PkI} {i:Nat} (h:i < l.length):takeAt PI 33 (pksL l) i 3 = some (fcA l[i].f):=by
 simp only [takeAt,List.getElem?_map,List.getElem?_eq_getElem h,Option.map_some,takeA,agg33,size33]
 rfl
theorem take_ps {l:List PkI} {i:Nat} (h:i < l.length):takeAt PI 9 (pksL l) i 0 = some (.str l[i].src):=by
 obtain ⟨s,hs⟩:=Option.isSome_iff_exists.1 size9
 simp only [takeAt,List.getElem?_map,List.getElem?_eq_getElem h,Option.map_some,takeA,agg9,hs]
 rfl
theorem take_pk {l:List PkI} {i:Nat} (h:i < l.length):takeAt PI 35 (pksL l) i 0 = some (pkA l[i]):=by
 simp only [takeAt,List.getElem?_map,List.getElem?_eq_getElem h,Option.map_some,takeA,agg35,size35]
 rfl
theorem unV_ok (v:VaI):unV (vaA v) = some v:=rfl
theorem c8 {r:List BxI} (h1:r.length≤140737488351232) (h2:∀ b ∈ r,b.src.length≤140737488351232∧b.ahead.length≤140737488351232):tbl t3 8 [.agg [.sl 3 (bxsL r) .no]] = some (.bool (rcvOk r),[]):=by
 rw [tbl_miss (by decide),tbl_hit]
 simp only [s8,if_true,unBs_ok]
 rw [if_pos ⟨h1,by rw [List.all_eq_true]; intro b hb; simp [h2 b hb]⟩]
theorem c9 {f:FcI} (h:f.src.length≤140737488351232∧f.table.length≤140737488351232∧f.key.length≤140737488351232∧f.fs.length≤140737488351232):tbl t3 9 [fcA f] = some (.bool (smallB f),[]):=by
 rw [tbl_miss (by decide),tbl_miss (by decide),tbl_hit]
 unfold fcA s9
 simp only [if_true]
 rw [show unL unV (vasL f.fs) = some f.fs from unL_map unV_ok f.fs]
 simp only
 rw [if_pos h]
theorem c10 {q:List BxI} {p:PkI} (hq:rcvOk q = true) (hp:p.src.length≤2000000):tbl t3 10 [.agg [.sl 3 (bxsL q) .no],pkA p] = some (rcvWA (recvW (recvP q (pkQ p))),[]):=by
 rw [tbl_miss (by decide),tbl_miss (by decide),tbl_miss (by decide),tbl_hit]
 unfold pkA s10w
 simp only [rcvOf,if_true,unBs_ok]
 rw [if_pos hp,if_pos hq]; rfl
theorem c11 {q:List BxI} {p:PkI} (hq:rcvOk q = true) (hp:p.src.length≤2000000):tbl t3 11 [.agg [.sl 3 (bxsL q) .no],pkA p] = some (rcvWA (recvW (recvP q (pkQ p))),[]):=by
 rw [tbl_miss (by decide),tbl_miss (by decide),tbl_miss (by decide),tbl_miss (by decide),tbl_hit]
 unfold pkA s11w
 simp only [unBs_ok]
 rw [if_pos ⟨hp,trivial⟩,if_pos hq]; rfl
theorem c13 {a:List BxI} (h1:a.length≤140737488351232) (h2:∀ b ∈ a,b.ahead.length≤140737488351232):tbl t3 13 [.agg [.sl 3 (bxsL a) .no],.agg [.sl 3 (bxsL a) .no]] = some (.bool true,[]):=by
 rw [tbl_miss (by decide),tbl_miss (by decide),tbl_miss (by decide),tbl_miss (by decide),tbl_miss (by decide),tbl_miss (by decide),tbl_hit]
 simp only [s13,and_self,if_true,unBs_ok]
 have:(a.all fun b=>decide (b.ahead.length≤140737488351232)) = true:=by rw [List.all_eq_true]; intro b hb; simp [h2 b hb]
 rw [if_pos ⟨h1,this⟩]; simp
theorem recvW_ok {q:List BxI} {p:PkQ} (hq:rcvOk q = true):RcvP (recvW (recvP q p)).r:=by
 cases h:recvP q p with
 | err c=>exact ⟨fun b hb=>(by cases hb),List.Pairwise.nil,Nat.zero_le _⟩
 | out r f s n=>exact recv_ok (rcvOk_iff.1 hq) h
theorem p3 (m:Int) (r:List BxI) (ps:List PkI) (hr:∀ b ∈ r,b.src.length≤140737488351232∧b.ahead.length≤140737488351232) (hp:∀ p ∈ ps,p.f.src.length≤140737488351232∧p.f.table.length≤140737488351232∧p.f.key.length≤140737488351232∧p.f.fs.length≤140737488351232) :
  PureOk PI (GI m) X3 (tbl t3) (itbl []) (a3 r ps) [] 3 [.agg [.sl 3 (bxsL r) .no],.sl 11 (pksL ps) .no] (.bool true,[]):=by
 constructor
 rw [w3]
 have hlp:(pksL ps).length = ps.length:=List.length_map ..
 have hlr:(bxsL r).length = r.length:=List.length_map ..
 rw [hlp,hlr]
 refine ⟨true,⟨rfl⟩,fun _=>⟨fun _=>⟨rfl⟩,fun h40=>⟨fun _=>⟨rfl⟩,fun h16=>⟨rcvOk r,⟨c8 (by have:=of_decide_eq_false h16; omega) hr⟩,fun hok=>⟨⟨(0,r),⟨rfl⟩,⟨rfl⟩,⟨Nat.zero_le _,by have:=of_decide_eq_false h40; omega,hok⟩,trivial⟩,fun x hx=>⟨fun hlt=>?_,fun _=>⟨rfl⟩⟩⟩,fun _=>⟨rfl⟩⟩⟩⟩,fun h=>(by cases h)⟩
 obtain ⟨i,q⟩:=x
 simp only at hx hlt ⊢
 obtain ⟨hi,h40',hq⟩:=hx
 have hlt:=of_decide_eq_true hlt
 have hil:i < ps.length:=by omega
 have hb2:(0:Int)≤i∧(i:Int) < ps.length:=⟨by omega,by omega⟩
 refine ⟨hb2,_,_,_,_,_,_,_,_,by rw [Int.toNat_natCast]; exact take_fc hil,smallB ps[i].f,⟨c9 (hp _ (List.getElem_mem hil))⟩,fun hs=>⟨hb2,_,by rw [Int.toNat_natCast]; exact take_ps hil,fun _=>⟨rfl⟩,fun h200=>?_⟩,fun _=>⟨rfl⟩⟩
 have h200:=of_decide_eq_false h200
 have hsrc:ps[i].src.length≤2000000:=by omega
 obtain ⟨R,hR⟩:∃ R,recvW (recvP q (pkQ ps[i])) = R:=⟨_,rfl⟩
 have hRP:RcvP R.r:=hR ▸ recvW_ok hq
 have k10:=c10 hq hsrc
 have k11:=c11 hq hsrc
 rw [hR] at k10 k11
 have k13:=c13 (a:=R.r) (by have:=hRP.len; omega) fun b hb=>by have:=(hRP.box b hb).len; omega
 have hfin:∀ (c:Bool) (T:Prop),(T→False)→True:=fun _ _ _=>trivial
 refine ⟨hb2,_,_,_,_,_,_,_,_,_,_,_,by rw [Int.toNat_natCast]; exact take_pk hil,bxsL R.r,R.fresh,R.src,R.ack,R.next,R.code,⟨k10⟩,fun hf=>⟨hb2,_,_,_,_,_,_,_,_,_,_,_,by rw [Int.toNat_natCast]; exact take_pk hil,bxsL R.r,R.fresh,R.src,R.ack,R.next,R.code,⟨k11⟩,fun _=>⟨fun h=>?_,fun _=>⟨fun h=>(by cases h),fun _=>⟨true,⟨by simp⟩,fun _=>⟨true,⟨k13⟩,fun _=>⟨fun h0=>?_,fun h0=>?_⟩,fun h=>(by cases h)⟩,fun h=>(by cases h)⟩⟩⟩,fun h=>?_⟩,fun hf=>⟨hb2,_,_,_,_,_,_,_,_,_,_,_,by rw [Int.toNat_natCast]; exact take_pk hil,bxsL R.r,R.fresh,R.src,R.ack,R.next,R.code,⟨k11⟩,fun h=>?_,fun _=>⟨fun h=>?_,fun _=>⟨fun h=>(by cases h),fun _=>⟨true,⟨by simp⟩,fun _=>⟨true,⟨k13⟩,fun _=>⟨fun h0=>?_,fun h0=>?_⟩,fun h=>(by cases h)⟩,fun h=>(by cases h)⟩⟩⟩⟩⟩
 all_goals first
  | (rw [hf] at h; cases h; done)
  | (simp at h; done)
  | exact ⟨(i + 1,R.r),⟨by rw [wrapN (by omega)]⟩,⟨rfl⟩,⟨by show i + 1≤ps.length; omega,h40',rcvOk_iff.2 hRP⟩,by show ps.length - (i + 1) < ps.length - i; omega⟩
  | exact ⟨(i + 1,q),⟨by rw [wrapN (by omega)]⟩,⟨rfl⟩,⟨by show i + 1≤ps.length; omega,h40',hq⟩,by show ps.length - (i + 1) < ps.length - i; omega⟩
theorem lax_of' {P:Program} {G:Glob} (hm:P.follows .mixedOrders = true) {m:List Bool} {f:FuncId} {s:Spec}
  (h:∀ args r,s args = some r→∃ X R C A,CalleeOk P G R∧ICalleeOk P G (lowC C)∧LaxOk P G X R C A m f args r):SpecOk P G f s:=by
 intro g args r lv hr
 by_cases e:g = f
 ·subst e
  simp only [if_true] at hr
  obtain ⟨X,R,C,A,hR,hC,hA⟩:=h args _ hr
  classical
  have key:SpecOk P G g (fun a=>if a = args then some (r,lv) else none):=lax_of (X:=X) (m:=m) hm hR hC fun a r' h'=>by
   split at h'
   ·rename_i ea
    injection h' with h'
    subst ea; subst h'
    exact ⟨A,hA⟩
   ·cases h'
  exact key g args r lv (by simp)
 ·simp only [if_neg e] at hr
  cases hr
theorem ispec_of' {P:Program} {G:Glob} (hm:P.follows .mixedOrders = true) {m:List Bool} {f:FuncId} {s:ISpec}
  (h:∀ args S p r,s args S = some (p,r)→p→∃ X R C A,CalleeOk P G R∧ICalleeOk P G (lowC C)∧OpenOk P G X R C A m f args S r):ISpecOk P G f s:=by
 intro g args S r S' hr
 simp only [lowC] at hr
 by_cases e:g = f
 ·subst e
  simp only [if_true] at hr
  split at hr
  case h_2=>cases hr
  rename_i x hx
  split at hr
  case isFalse=>cases hr
  rename_i hp
  injection hr with hr
  obtain ⟨X,R,C,A,hR,hC,hA⟩:=h args S x.1 x.2 hx hp
  classical
  have key:ISpecOk P G g (fun a T=>if a = args∧T = S then some (True,x.2) else none):=ispec_of (X:=X) (m:=m) hm hR hC fun a T p r' h' _=>by
   split at h'
   ·rename_i ea
    injection h' with h'
    obtain ⟨rfl,rfl⟩:=ea
    injection h' with h1 h2
    subst h2
    exact ⟨A,hA⟩
   ·cases h'
  refine key g args S r S' ?_
  simp only [lowC,and_self,if_true,hr]
 ·simp only [if_neg e] at hr
  cases hr
theorem unG_inv (a:AV) (x:FcI) (h:unG a = some x):a = fcA x:=by
 unfold unG at h
 split at h
 ·rename_i src seq kind ref table key event sz es
  split at h
  ·rename_i hz
   subst hz
   cases hu:unL unV es with
   | none=>rw [hu] at h; cases h
   | some fs =>
    rw [hu] at h
    injection h with h; subst h
    rw [unL_inv unV_inv hu]
    rfl
  ·cases h
 ·cases h
theorem unGs_inv {es:List AV} {l:List FcI} (h:unL unG es = some l):es = fcsL l:=unL_inv unG_inv h
theorem take_f {l:List FcI} {i:Nat} (h:i < l.length):takeAt PI 33 (fcsL l) i 0 = some (fcA l[i]):=by
 simp only [takeAt,List.getElem?_map,List.getElem?_eq_getElem h,Option.map_some,takeA,agg33,size33]
 rfl
theorem keptOpen_fc (n:Int) (l:List FcI):keptOpen n (fcsL l) = fcsL (l.filter (keepF n)):=by
 unfold keptOpen
 rw [List.filter_map]
 rfl
theorem keptIdx_none {n:Int} {l:List FcI} (h:l.all (keepF n) = true):keptIdx n (fcsL l) = -1:=by
 unfold keptIdx
 rw [if_pos]
 rw [List.all_map]; exact h
theorem keptIdx_at {n:Int} {l:List FcI} {i:Nat} (hi:i < l.length) (h:(l.take i).all (keepF n) = true) (h2:keepF n l[i] = false):keptIdx n (fcsL l) = i:=by
 unfold keptIdx
 have hne:¬ (fcsL l).all (fun e=>!decide (seqOf e < n)) = true:=fun hf=>by
  rw [List.all_map] at hf
  have:=List.all_eq_true.1 hf _ (List.getElem_mem hi)
  rw [show ((fun e=>!decide (seqOf e < n)) ∘ fcA) l[i] = keepF n l[i] from rfl,h2] at this
  cases this
 rw [if_neg hne,List.takeWhile_map,List.length_map]
 congr 1
 have e:l = l.take i ++ l[i] :: l.drop (i + 1):=by rw [← List.drop_eq_getElem_cons hi,List.take_append_drop]
 have:(l.takeWhile (keepF n)).length = i:=by
  conv=>lhs; rw [e]
  rw [List.takeWhile_append_of_pos (fun a ha=>List.all_eq_true.1 h a ha),List.takeWhile_cons_of_neg (by rw [h2]; simp)]
  simp; omega
 exact this
theorem keptIdx_cases (n:Int) (l:List FcI):(keptIdx n (fcsL l) = -1∧l.all (keepF n) = true)∨∃ i:Nat,∃ h:i < l.length,keptIdx n (fcsL l) = i∧(l.take i).all (keepF n) = true∧keepF n l[i] = false:=by
 by_cases h:l.all (keepF n) = true
 ·exact .inl ⟨keptIdx_none h,h⟩
 ·right
  have hlen:(l.takeWhile (keepF n)).length < l.length:=by
   rcases Nat.lt_or_ge (l.takeWhile (keepF n)).length l.length with h' | h'
   ·exact h'
   ·have:=(List.takeWhile_prefix (keepF n) (l:=l)).eq_of_length_le h'
    exact absurd (by rw [← this]; exact List.all_takeWhile) h
  have h1:(l.take (l.takeWhile (keepF n)).length).all (keepF n) = true:=by
   rw [← List.prefix_iff_eq_take.1 (List.takeWhile_prefix (keepF n) (l:=l))]
   exact List.all_takeWhile
  have h2:keepF n l[(l.takeWhile (keepF n)).length] = false:=by
   have hd:l = l.takeWhile (keepF n) ++ l.dropWhile (keepF n):=List.takeWhile_append_dropWhile.symm
   have hdl:0 < (l.dropWhile (keepF n)).length:=by
    have:=congrArg List.length hd
    rw [List.length_append] at this; omega
   have:=List.head_dropWhile_not (p:=keepF n) (l:=l) (by intro e; rw [e] at hdl; simp at hdl)
   have e2:∀ k,k = (l.takeWhile (keepF n)).length→l[k]? = some ((l.dropWhile (keepF n)).head (by intro e; rw [e] at hdl; simp at hdl)):=by
    intro k hk
    have:l[k]? = (l.takeWhile (keepF n) ++ l.dropWhile (keepF n))[k]?:=congrArg (·[k]?) hd
    rw [this,List.getElem?_append_right (by omega),hk,Nat.sub_self,← List.head?_eq_getElem?,List.head?_eq_some_head]
   have e2:=e2 _ rfl
   rw [List.getElem?_eq_getElem hlen] at e2
   injection e2 with e2
   rw [e2]; exact this
  exact ⟨_,hlen,keptIdx_at hlen h1 h2,h1,h2⟩
theorem o47 (m:Int):ISpecOk PI (GI m) 47 s47:=ispec_of' (m:=[]) mixedI fun args S p r h hp=>by
 unfold s47 at h
 split at h
 case h_3=>cases h
 case h_1 =>
  split at h
  case isFalse=>cases h
  rename_i hc
  obtain ⟨rfl,rfl,rfl,rfl,rfl,ha,rfl,rfl,rfl,rfl⟩:=hc
  have ha:=List.isEmpty_iff.1 ha
  subst ha
  injection h with h
  injection h with _ h; subst h
  exact ⟨XK,tbl [],itbl [],nAn,tbl_nil,itbl_nil,⟨by rw [w47]; exact ⟨fun h=>⟨rfl,by rw [h]⟩,fun h=>⟨rfl,by rw [h]⟩⟩⟩⟩
 case h_2 =>
  split at h
  case isFalse=>cases h
  rename_i hc
  obtain ⟨rfl,rfl,rfl,rfl,rfl,rfl,ha,rfl,rfl,rfl,rfl⟩:=hc
  have ha:=List.isEmpty_iff.1 ha
  subst ha
  injection h with h
  injection h with _ h; subst h
  exact ⟨XK,tbl [],itbl [],nAn,tbl_nil,itbl_nil,⟨by rw [w47f]; exact ⟨fun h=>⟨rfl,by rw [h]⟩,fun h=>⟨rfl,by rw [h]⟩⟩⟩⟩
theorem p62 (m:Int) (nm src fsrc tab key:List UInt8) (nx pn seq kind ref ev:Int) (ack:Bool) (l1 fs:List AV) (l:List FcI) (hl:l.length≤2000000) :
  OpenOk PI (GI m) XK (tbl []) (itbl [(47,s47)]) (a62 nm nx l1 (pkD src ack pn fsrc seq kind ref tab key ev fs) pn l) [] 62 [.ms 3 8 l.length,.fn 47 [.ptr 1 0]] (S4 nm nx l1 (pkD src ack pn fsrc seq kind ref tab key ev fs) l) (.int .i64 (keptIdx pn (fcsL l)),S4 nm nx l1 (pkD src ack pn fsrc seq kind ref tab key ev fs) l):=by
 constructor
 rw [w62]
 refine ⟨⟨0,⟨rfl⟩,⟨rfl⟩,⟨Nat.zero_le _,rfl⟩,trivial⟩,fun x hx=>⟨fun hlt=>?_,fun hge=>?_⟩⟩
 ·have hlt:=of_decide_eq_true hlt
  have hil:x < l.length:=by omega
  refine ⟨⟨by omega,hlt⟩,_,_,_,_,_,_,_,_,by rw [Int.toNat_natCast]; exact take_f hil,trivial,fun hs=>⟨rfl,?_⟩,fun hs=>⟨x + 1,⟨by rw [wrapN (by omega)]⟩,⟨rfl⟩,⟨hil,?_⟩,by omega⟩⟩
  ·rw [keptIdx_at hil hx.2 (by simp only [keepF]; rw [hs]; rfl)]
  ·rw [List.take_succ_eq_append_getElem hil,List.all_append,hx.2]
   simp only [List.all_cons,List.all_nil,Bool.and_true,Bool.true_and,keepF]
   rw [hs]; rfl
 ·have hge:=of_decide_eq_false hge
  refine ⟨rfl,?_⟩
  rw [keptIdx_none]
  have:=hx.2
  rwa [List.take_of_length_le (by omega)] at this
theorem p62e (m:Int) (z1:Nat) (nm src fsrc tab key:List UInt8) (nx pn seq kind ref ev:Int) (ack:Bool) (l1 fs:List AV) :
  OpenOk PI (GI m) XK (tbl []) (itbl [(47,s47)]) (a62e nm nx z1 l1 (pkD src ack pn fsrc seq kind ref tab key ev fs)) [] 62 [.sl 8 [] .full,.fn 47 [.ptr 1 0]] (S3 nm nx z1 l1 (pkD src ack pn fsrc seq kind ref tab key ev fs)) (.int .i64 (-1),S3 nm nx z1 l1 (pkD src ack pn fsrc seq kind ref tab key ev fs)):=by
 constructor
 rw [w62e]
 exact ⟨⟨(),⟨rfl⟩,⟨rfl⟩,trivial,trivial⟩,fun _ _=>⟨fun h=>(by cases h),fun _=>⟨rfl,rfl⟩⟩⟩
theorem o62 (m:Int):ISpecOk PI (GI m) 62 s62:=ispec_of' (m:=[]) mixedI fun args S p r h hp=>by
 unfold s62 at h
 split at h
 case h_3=>cases h
 case h_1 =>
  split at h
  case isFalse=>cases h
  rename_i hc
  obtain ⟨rfl,rfl,rfl,rfl,rfl,rfl,rfl,ha,rfl,rfl,rfl,rfl⟩:=hc
  have ha:=List.isEmpty_iff.1 ha
  subst ha
  injection h with h
  injection h with h1 h; subst h1 h
  obtain ⟨⟨l,rfl⟩,rfl,hl⟩:=hp
  rw [List.length_map] at hl ⊢
  exact ⟨XK,_,_,_,tbl_nil,itbl_cons (o47 m) itbl_nil,p62 m _ _ _ _ _ _ _ _ _ _ _ _ _ _ l hl⟩
 case h_2 =>
  split at h
  case isFalse=>cases h
  rename_i hc
  obtain ⟨rfl,rfl,rfl,rfl,rfl,ha,rfl,rfl⟩:=hc
  have ha:=List.isEmpty_iff.1 ha
  subst ha
  injection h with h
  injection h with _ h; subst h
  exact ⟨XK,_,_,_,tbl_nil,itbl_cons (o47 m) itbl_nil,p62e m _ _ _ _ _ _ _ _ _ _ _ _ _ _ _⟩
theorem p46 (m:Int) (nm src fsrc tab key:List UInt8) (nx pn seq kind ref ev:Int) (ack:Bool) (l1 fs:List AV) (l:List FcI) (hl:l.length≤2000000) :
  OpenOk PI (GI m) XK (tbl []) (itbl [(47,s47),(62,s62)]) (a46 nm nx l1 (pkD src ack pn fsrc seq kind ref tab key ev fs) pn l) [] 46 [.ms 3 8 l.length,.fn 47 [.ptr 1 0]] (S4 nm nx l1 (pkD src ack pn fsrc seq kind ref tab key ev fs) l) (.ms 3 8 (keptOpen pn (fcsL l)).length,⟨[some (sdC nm nx 8 l1),some (pkD src ack pn fsrc seq kind ref tab key ev fs),some sdZ,some (ownC 8 (keptOpen pn (fcsL l)))],[]⟩):=by
 constructor
 rw [w46]
 rcases keptIdx_cases pn l with ⟨hi,hall⟩ | ⟨i,hil,hi,hpre,hat⟩
 ·rw [hi]
  have hf:l.filter (keepF pn) = l:=List.filter_eq_self.2 fun a ha=>List.all_eq_true.1 hall a ha
  refine ⟨⟨⟨l,rfl⟩,(List.length_map ..).symm,by rw [List.length_map]; exact hl⟩,fun _=>⟨rfl,?_⟩,fun h=>(by cases h)⟩
  rw [keptOpen_fc,hf,List.length_map]
 ·rw [hi]
  have hpf:(l.take i).filter (keepF pn) = l.take i:=List.filter_eq_self.2 fun a ha=>List.all_eq_true.1 hpre a ha
  refine ⟨⟨⟨l,rfl⟩,(List.length_map ..).symm,by rw [List.length_map]; exact hl⟩,fun h=>(by simp at h),fun _=>⟨⟨⟨i,i + 1,l⟩,⟨by rw [wrapN (by omega)]⟩,⟨rfl⟩,⟨Nat.lt_succ_self _,hil,rfl,?_,rfl⟩,trivial⟩,fun x hx=>⟨fun hlt=>?_,fun hge=>?_⟩⟩⟩
  ·rw [List.take_succ_eq_append_getElem hil,List.filter_append,hpf,List.filter_cons_of_neg (by rw [hat]; simp)]
   simp
  ·obtain ⟨j,i,cur⟩:=x
   simp only at hx hlt ⊢
   obtain ⟨hji,hil2,hcl,hpre,hsuf⟩:=hx
   have hlt:=of_decide_eq_true hlt
   have hi:i < l.length:=by omega
   have hic:i < cur.length:=by omega
   have hei:cur[i] = l[i]:=by
    have:=congrArg (·[0]?) hsuf
    simp only [List.getElem?_drop,Nat.add_zero] at this
    rw [List.getElem?_eq_getElem hi,List.getElem?_eq_getElem hic] at this
    injection this
   have hdrop:cur.drop (i + 1) = l.drop (i + 1):=by
    have:=congrArg (·.drop 1) hsuf
    simpa [List.drop_drop,Nat.add_comm] using this
   have htk:(l.take (i + 1)).filter (keepF pn) = (l.take i).filter (keepF pn) ++ (if keepF pn l[i] then [l[i]] else []):=by
    rw [List.take_succ_eq_append_getElem hi,List.filter_append]
    congr 1
    by_cases h:keepF pn l[i] = true
    ·rw [if_pos h,List.filter_cons_of_pos h]; rfl
    ·rw [if_neg h,List.filter_cons_of_neg h]; rfl
   refine ⟨⟨by omega,hlt⟩,_,_,_,_,_,_,_,_,by rw [Int.toNat_natCast]; exact take_f hic,trivial,fun hs=>⟨⟨j,i + 1,cur⟩,⟨by rw [wrapN (by omega)]⟩,⟨rfl⟩,⟨by show j < i + 1; omega,hi,hcl,?_,hdrop⟩,by show l.length - (i + 1) < l.length - i; omega⟩,fun hs=>?_⟩
   ·rw [hei] at hs
    show cur.take j = _
    rw [htk,if_neg (by simp only [keepF]; rw [hs]; simp),List.append_nil]; exact hpre
   ·refine ⟨⟨by omega,by omega⟩,by rw [List.length_map,Int.toNat_natCast]; omega,⟨j + 1,i + 1,cur.set j l[i]⟩,⟨by rw [wrapN (by omega),wrapN (by omega)]⟩,⟨?_⟩,⟨by show j + 1 < i + 1; omega,hi,by show (cur.set j l[i]).length = _; rw [List.length_set]; exact hcl,?_,?_⟩,by show l.length - (i + 1) < l.length - i; omega⟩
    ·rw [Int.toNat_natCast]
     have hg:(fcsL cur).getD j .junk = fcA (cur[j]'(by omega)):=by
      rw [List.getD_eq_getElem?_getD,List.getElem?_map,List.getElem?_eq_getElem (by omega)]; rfl
     rw [hg]
     have e:(fcsL cur).set j (fcA cur[i]) = fcsL (cur.set j l[i]):=by rw [hei]; exact List.map_set.symm
     exact congrArg (fun y=>({ boxes:=[some (sdC nm nx 8 l1),some (pkD src ack pn fsrc seq kind ref tab key ev fs),some sdZ,some (ownC 8 y)],live:=[] }:St)) e
    ·rw [hei] at hs
     show (cur.set j l[i]).take (j + 1) = _
     rw [htk,if_pos (by simp only [keepF]; rw [hs]; rfl),← hpre]
     have hj:j < (cur.set j l[i]).length:=by rw [List.length_set]; omega
     rw [List.take_succ_eq_append_getElem hj,List.take_set_of_le (Nat.le_refl _),List.getElem_set_self]
    ·show (cur.set j l[i]).drop (i + 1) = _
     rw [List.drop_set_of_lt (by omega)]; exact hdrop
  ·obtain ⟨j,i,cur⟩:=x
   simp only at hx hge ⊢
   obtain ⟨hji,hil2,hcl,hpre,hsuf⟩:=hx
   have hge:=of_decide_eq_false hge
   obtain rfl:i = l.length:=by omega
   rw [List.take_of_length_le (Nat.le_refl _)] at hpre
   rw [Int.toNat_natCast,List.length_map,keptOpen_fc,List.length_map]
   have hjl:j = (l.filter (keepF pn)).length:=by
    rw [← hpre,List.length_take]; omega
   refine ⟨by omega,trivial,⟨by omega,Nat.le_refl _⟩,trivial,by omega,by omega,trivial,⟨Nat.zero_le _,by omega⟩,rfl,?_⟩
   rw [← List.map_take,hpre,← hjl]
theorem p46e (m:Int) (z1:Nat) (nm src fsrc tab key:List UInt8) (nx pn seq kind ref ev:Int) (ack:Bool) (l1 fs:List AV) :
  OpenOk PI (GI m) XK (tbl []) (itbl [(47,s47),(62,s62)]) nAn [] 46 [.sl 8 [] .full,.fn 47 [.ptr 1 0]] (S3 nm nx z1 l1 (pkD src ack pn fsrc seq kind ref tab key ev fs)) (.sl 8 [] .full,S3 nm nx z1 l1 (pkD src ack pn fsrc seq kind ref tab key ev fs)):=by
 constructor
 rw [w46e]
 exact ⟨trivial,fun _=>⟨rfl,rfl⟩,fun h=>(by cases h)⟩
theorem o46 (m:Int):ISpecOk PI (GI m) 46 s46:=ispec_of' (m:=[]) mixedI fun args S p r h hp=>by
 have hC:=itbl_cons (o47 m) (itbl_cons (o62 m) itbl_nil)
 unfold s46 at h
 split at h
 case h_3=>cases h
 case h_1 =>
  split at h
  case isFalse=>cases h
  rename_i hc
  obtain ⟨rfl,rfl,rfl,rfl,rfl,rfl,rfl,ha,rfl,rfl,rfl,rfl⟩:=hc
  have ha:=List.isEmpty_iff.1 ha
  subst ha
  injection h with h
  injection h with h1 h; subst h1 h
  obtain ⟨⟨l,rfl⟩,rfl,hl⟩:=hp
  rw [List.length_map] at hl
  have:=p46 m
  rw [show (fcsL l).length = l.length from List.length_map ..]
  exact ⟨XK,_,_,_,tbl_nil,hC,p46 m _ _ _ _ _ _ _ _ _ _ _ _ _ _ l hl⟩
 case h_2 =>
  split at h
  case isFalse=>cases h
  rename_i hc
  obtain ⟨rfl,rfl,rfl,rfl,rfl,ha,rfl,rfl⟩:=hc
  have ha:=List.isEmpty_iff.1 ha
  subst ha
  injection h with h
  injection h with _ h; subst h
  exact ⟨XK,_,_,_,tbl_nil,hC,p46e m _ _ _ _ _ _ _ _ _ _ _ _ _ _ _⟩
theorem o45 (m:Int):SpecOk PI (GI m) 45 s45:=spec_of (X:=XK) (m:=[]) mixedI tbl_nil itbl_nil fun args r h=>by
 unfold s45 at h
 split at h
 case h_2=>cases h
 split at h
 case isFalse=>cases h
 rename_i hz
 subst hz
 injection h with h; subst h
 exact ⟨nAn,⟨by rw [w45]; exact ⟨rfl⟩⟩⟩
theorem o44p (m:Int):SpecOk PI (GI m) 44 s44p:=spec_of (X:=XK) (m:=[]) mixedI tbl_nil itbl_nil fun args r h=>by
 unfold s44p at h
 split at h
 case h_2=>cases h
 rename_i sz x es
 split at h
 case isFalse=>cases h
 rename_i hz
 obtain ⟨rfl,hz⟩:=hz
 injection h with h; subst h
 refine ⟨nAn,⟨?_⟩⟩
 rw [w44]
 simp only [List.length_cons]
 exact ⟨rfl,.inr trivial,by omega,fun h=>(by cases h),fun _=>⟨by omega,⟨by simp⟩⟩⟩
theorem o44z (m:Int):SpecOk PI (GI m) 44 s44z:=by
 intro g args r lv h E w vs hI hG hn' hv hcl
 simp only at h
 split at h
 case isFalse=>cases h
 case isTrue e =>
 subst e
 unfold s44z at h
 split at h
 case h_2=>cases h
 case h_1 sz o =>
 simp only [Option.some.injEq,Prod.mk.injEq] at h
 obtain ⟨rfl,rfl⟩:=h
 obtain ⟨a,rfl⟩:=vs_one hn'
 obtain ⟨A,cap,rfl,hcap⟩:=rep_slice_shape (hv 0 _ _ rfl rfl)
 have hrep:∀ (A:Option Addr) (w':World) (B:Nat→Option Nat) (K:Nat→Nat→Value→Prop),Rep ⟨E.I,B,K⟩ w' (.sl 8 [] .full) (.slice A 0 0):=fun A w' B K=>.sl 8 [] .full A 0 (fun _ _=>.bool true) (Nat.le_refl _) (Nat.zero_le _) (.inl rfl) (by simp) (by simp) rfl (fun i e j c hi=>by simp at hi) (fun _ _=>rfl)
 cases A with
 | none=>exact .inl ⟨I41.good44,(I41.cloneNil44 _ cap w).mono fun e w' ⟨he,hw⟩=>⟨_,he,by subst hw; exact res_same fun B K=>hrep none _ B K⟩⟩
 | some a=>exact .inl ⟨I41.good44,(I41.cloneEmpty44 a cap w).mono fun e w' ⟨A,he,hw⟩=>⟨_,he,res_below hw fun B K=>hrep A _ B K⟩⟩
theorem o44n (m:Int):ISpecOk PI (GI m) 44 s44n:=(o44 m).mono fun args S p r h hp=>by
 unfold s44n at h
 split at h
 case h_2=>cases h
 rename_i sz es o
 split at h
 ·rename_i he
  injection h with h
  injection h with h1 h2; subst h1 h2
  exact ⟨True,by simp only [s44,sClone,he,if_true],trivial⟩
 ·rename_i he
  split at h
  case isFalse=>cases h
  rename_i hz
  subst hz
  injection h with h
  injection h with h1 h2; subst h1 h2
  exact ⟨_,by simp only [s44,sClone,he,if_true]; rfl,hp.2⟩
theorem o22 (m:Int):SpecOk PI (GI m) 22 s22:=lax_of (X:=XK) (m:=[]) mixedI (tbl_cons (o45 m) tbl_nil) itbl_nil fun args r h=>by
 unfold s22 at h
 split at h
 case h_2=>cases h
 rename_i nm nx sz es
 split at h
 case isFalse=>cases h
 rename_i hc
 obtain ⟨rfl,hlen⟩:=hc
 split at h
 case h_2=>cases h
 rename_i l hl
 obtain rfl:=unGs_inv hl
 injection h with h; subst h
 refine ⟨a22 nm nx l,⟨?_⟩⟩
 rw [w22]
 have hll:(fcsL l).length = l.length:=List.length_map ..
 have hrl:∀ n,n≤l.length→(resP (l.take n)).length = n:=fun n hn=>by simp [resP]; omega
 have hpl:∀ n,n≤l.length→(pksL (resP (l.take n))).length = n:=fun n hn=>by simp [resP]; omega
 rw [hll] at hlen ⊢
 refine ⟨⟨0,⟨rfl⟩,⟨rfl⟩,Nat.zero_le _,trivial⟩,fun x hx=>⟨fun hlt=>?_,fun hge=>?_⟩⟩
 ·have hlt:=of_decide_eq_true hlt
  have hil:x < l.length:=by omega
  refine ⟨⟨by omega,hlt⟩,_,_,_,_,_,_,_,_,by rw [Int.toNat_natCast]; exact take_f hil,_,_,_,_,_,_,_,_,_,_,_,⟨rfl⟩,.inl rfl,by rw [hpl _ hx]; omega,by rw [hpl _ hx,hrl _ hx],x + 1,⟨?_⟩,⟨?_⟩,hil,by omega⟩
  ·rw [wrapN (by omega),List.take_succ_eq_append_getElem hil]
   simp only [resP,List.map_append,List.map_cons,List.map_nil]
   rfl
  ·rw [hpl _ hx,hrl _ hil]
 ·have hge:=of_decide_eq_false hge
  have hx':x = l.length:=by omega
  subst hx'
  rw [List.take_of_length_le (Nat.le_refl _)]
  exact ⟨⟨rfl,rfl,.inl rfl⟩,rfl,rfl⟩
theorem o23 (m:Int):SpecOk PI (GI m) 23 s23:=lax_of (X:=XK) (m:=[]) mixedI tbl_nil (itbl_cons (o44n m) (itbl_cons (o46 m) itbl_nil)) fun args r h=>by
 unfold s23 at h
 split at h
 case h_2=>cases h
 rename_i nm nx sz es src ack n fsrc seq kind ref tab key ev sz2 fs
 split at h
 case isFalse=>cases h
 rename_i hc
 obtain ⟨hsz,rfl,hlen⟩:=hc
 split at h
 case h_2=>cases h
 rename_i l hl
 obtain rfl:=unGs_inv hl
 injection h with h; subst h
 obtain ⟨q,hq⟩:∃ q,ackP ⟨nm,nx,l⟩ src ack n = q:=⟨_,rfl⟩
 rw [hq]
 obtain ⟨⟨rn,rx,rl⟩,rc⟩:=q
 have hz:ackBad nm nx src ack n = true→RetLax (.tup [.agg sdZ,.int .i64 1]) (.tup [.agg (sdC rn rx 8 (fcsL rl)),.int .i64 rc],[]):=fun hb=>by
  simp only [ackP,hb,if_true,Prod.mk.injEq,SdI.mk.injEq] at hq
  obtain ⟨⟨rfl,rfl,rfl⟩,rfl⟩:=hq
  exact ⟨⟨⟨rfl,rfl,⟨rfl,rfl,.inr rfl⟩,trivial⟩,rfl,trivial⟩,rfl,rfl⟩
 have hg:ackBad nm nx src ack n = false→(⟨rn,rx,rl⟩,rc) = ((⟨nm,nx,l.filter fun f=>!decide (f.seq < n)⟩:SdI),(0:Int)):=fun hb=>by
  simp only [ackP,hb,Bool.false_eq_true,if_false] at hq
  exact hq.symm
 cases l with
 | nil =>
  refine ⟨nAn,⟨?_⟩⟩
  have:fcsL rl = []:=by
   cases hb:ackBad nm nx src ack n with
   | true =>
    simp only [ackP,hb,if_true,Prod.mk.injEq,SdI.mk.injEq] at hq
    obtain ⟨⟨rfl,rfl,rfl⟩,rfl⟩:=hq; rfl
   | false =>
    have:=hg hb
    simp only [Prod.mk.injEq,SdI.mk.injEq] at this
    rw [this.1.2.2]; rfl
  unfold sdA
  rw [this] at hz ⊢
  show laxW PI (GI m) XK (tbl []) (itbl [(44,s44n),(46,s46)]) nAn [] 23 [.agg (sdC nm nx sz []),.agg (pkD src ack n fsrc seq kind ref tab key ev fs)] (.tup [.agg (sdC rn rx 8 []),.int .i64 rc],[])
  rw [w23e]
  refine ⟨fun h1=>⟨fun h2=>hz (by simp_all [ackBad]),fun h2=>⟨fun h3=>hz (by simp_all [ackBad]),fun h3=>⟨fun h4=>hz (by simp_all [ackBad]),fun h4=>⟨trivial,trivial,?_⟩⟩⟩⟩,fun h1=>hz (by simp_all [ackBad])⟩
  have:=hg (by simp_all [ackBad])
  simp only [Prod.mk.injEq,SdI.mk.injEq] at this
  obtain ⟨⟨rfl,rfl,_⟩,rfl⟩:=this
  exact ⟨⟨⟨rfl,rfl,⟨rfl,rfl,.inl rfl⟩,trivial⟩,rfl,trivial⟩,rfl,rfl⟩
 | cons f l =>
  obtain rfl:sz = 8:=hsz.resolve_right (by simp)
  refine ⟨nAn,⟨?_⟩⟩
  show laxW PI (GI m) XK (tbl []) (itbl [(44,s44n),(46,s46)]) nAn [] 23 [.agg (sdC nm nx 8 (fcA f :: fcsL l)),.agg (pkD src ack n fsrc seq kind ref tab key ev fs)] (.tup [.agg (sdC rn rx 8 (fcsL rl)),.int .i64 rc],[])
  rw [w23]
  have hlen':l.length + 1≤2000000:=by simpa using hlen
  refine ⟨fun h1=>⟨fun h2=>hz (by simp_all [ackBad]),fun h2=>⟨fun h3=>hz (by simp_all [ackBad]),fun h3=>⟨fun h4=>hz (by simp_all [ackBad]),fun h4=>⟨⟨by simp,by simp; omega⟩,⟨⟨f :: l,rfl⟩,rfl,by simpa using hlen'⟩,rfl,?_⟩⟩⟩⟩,fun h1=>hz (by simp_all [ackBad])⟩
  have:=hg (by simp_all [ackBad])
  simp only [Prod.mk.injEq,SdI.mk.injEq] at this
  obtain ⟨⟨rfl,rfl,rfl⟩,rfl⟩:=this
  refine ⟨⟨⟨rfl,rfl,⟨rfl,?_,.inl rfl⟩,trivial⟩,rfl,trivial⟩,rfl,rfl⟩
  exact keptOpen_fc n (f :: l)
theorem o21 (m:Int):SpecOk PI (GI m) 21 s21:=lax_of' (m:=[]) mixedI fun args r h=>by
 unfold s21 at h
 split at h
 case h_2=>cases h
 rename_i nm nx sz es src seq kind ref tab key ev sz2 es2
 split at h
 case isFalse=>cases h
 rename_i hc
 obtain ⟨hsz,rfl,hlen,hnx⟩:=hc
 split at h
 case h_2=>cases h
 rename_i l fs hl hfs
 obtain rfl:=unGs_inv hl
 obtain rfl:=unL_inv unV_inv hfs
 injection h with h; subst h
 obtain ⟨g,hgd⟩:∃ g:FcI,(⟨src,seq,kind,ref,tab,key,ev,fs⟩:FcI) = g:=⟨_,rfl⟩
 rw [hgd]
 obtain ⟨q,hq⟩:∃ q,subP ⟨nm,nx,l⟩ g = q:=⟨_,rfl⟩
 rw [hq]
 obtain ⟨⟨rn,rx,rl⟩,p,rc⟩:=q
 have hZ:∀ c:Int,(q:(⟨⟨rn,rx,rl⟩,p,rc⟩:SdI × PkI × Int) = (⟨[],0,[]⟩,⟨[],false,0,⟨[],0,0,0,[],[],0,[]⟩⟩,c))→RetLax (.tup [.agg sdZ,.agg zeroPC,.int .i64 c]) (.tup [.agg (sdC rn rx 8 (fcsL rl)),pkA p,.int .i64 rc],[]):=fun c hq=>by
  simp only [Prod.mk.injEq,SdI.mk.injEq] at hq
  obtain ⟨⟨rfl,rfl,rfl⟩,rfl,rfl⟩:=hq
  exact ⟨⟨⟨rfl,rfl,⟨rfl,rfl,.inr rfl⟩,trivial⟩,⟨rfl,rfl,rfl,rfl,rfl,rfl,rfl,rfl,rfl,rfl,⟨rfl,rfl,.inr rfl⟩,trivial⟩,rfl,trivial⟩,rfl,rfl⟩
 have h1:decide (nx > 1099511627776) = true→(⟨⟨rn,rx,rl⟩,p,rc⟩:SdI × PkI × Int) = (⟨[],0,[]⟩,⟨[],false,0,⟨[],0,0,0,[],[],0,[]⟩⟩,2):=fun h=>by
  have h:=of_decide_eq_true h
  rw [← hq]; unfold subP; rw [if_pos (by show (1099511627776:Int) < nx; omega)]
 have h2:decide (nx > 1099511627776) = false→64≤l.length→(⟨⟨rn,rx,rl⟩,p,rc⟩:SdI × PkI × Int) = (⟨[],0,[]⟩,⟨[],false,0,⟨[],0,0,0,[],[],0,[]⟩⟩,410):=fun h h'=>by
  have h:=of_decide_eq_false h
  rw [← hq]; unfold subP; rw [if_neg (by show ¬ (1099511627776:Int) < nx; omega),if_pos h']
 have h3:decide (nx > 1099511627776) = false→¬ 64≤l.length→(⟨⟨rn,rx,rl⟩,p,rc⟩:SdI × PkI × Int) = (⟨nm,nx + 1,l ++ [{ g with src:=nm,seq:=nx }]⟩,⟨nm,false,0,{ g with src:=nm,seq:=nx }⟩,0):=fun h h'=>by
  have h:=of_decide_eq_false h
  rw [← hq]; unfold subP; rw [if_neg (by show ¬ (1099511627776:Int) < nx; omega),if_neg h']
 have hw:decide (nx > 1099511627776) = false→IntKind.i64.wrap (nx + 1) = nx + 1:=fun h=>by
  have h:=of_decide_eq_false h
  exact wrap64_in (by omega) (by omega)
 have hgc:(AV.agg [.str src,.int .i64 seq,.int .i64 kind,.int .i64 ref,.str tab,.str key,.int .i64 ev,.sl 3 (fs.map vaA) .no]) = .agg (fcC g):=by rw [← hgd]
 rw [hgc]
 cases l with
 | nil =>
  refine ⟨XZ,_,_,nAn,tbl_cons (o44z m) (tbl_cons (o45 m) tbl_nil),itbl_nil,⟨?_⟩⟩
  show laxW PI (GI m) XZ (tbl [(44,s44z),(45,s45)]) (itbl []) nAn [] 21 [.agg (sdC nm nx sz []),.agg (fcC g)] (.tup [.agg (sdC rn rx 8 (fcsL rl)),pkA p,.int .i64 rc],[])
  rw [w21e]
  refine ⟨fun h=>hZ 2 (h1 h),fun h=>⟨fun h'=>(by cases h'),fun h'=>⟨_,⟨rfl⟩,.inl rfl,by simp,_,_,_,_,_,_,_,_,_,_,_,⟨rfl⟩,?_⟩⟩⟩
  have h3:=h3 h (by simp)
  rw [hw h]
  simp only [Prod.mk.injEq,SdI.mk.injEq] at h3
  obtain ⟨⟨rfl,rfl,rfl⟩,rfl,rfl⟩:=h3
  exact ⟨⟨⟨rfl,rfl,⟨rfl,rfl,.inl rfl⟩,trivial⟩,⟨rfl,rfl,rfl,rfl,rfl,rfl,rfl,rfl,rfl,rfl,⟨rfl,rfl,.inl rfl⟩,trivial⟩,rfl,trivial⟩,rfl,rfl⟩
 | cons f l =>
  obtain rfl:sz = 8:=hsz.resolve_right (by simp)
  refine ⟨XK,_,_,nAn,tbl_cons (o44p m) (tbl_cons (o45 m) tbl_nil),itbl_nil,⟨?_⟩⟩
  show laxW PI (GI m) XK (tbl [(44,s44p),(45,s45)]) (itbl []) nAn [] 21 [.agg (sdC nm nx 8 (fcA f :: fcsL l)),.agg (fcC g)] (.tup [.agg (sdC rn rx 8 (fcsL rl)),pkA p,.int .i64 rc],[])
  rw [w21]
  have hlen':l.length + 1≤2000000:=by simpa using hlen
  have k44:tbl [(44,s44p),(45,s45)] 44 [.sl 8 (fcA f :: fcsL l) .no] = some (.sl 8 (fcA f :: fcsL l) (.tok 0),[((fcsL l).length + 1,33)]):=by
   rw [tbl_hit]
   have:(fcsL l).length≤2000000:=by rw [List.length_map]; omega
   simp only [s44p,this,true_and,if_true]
  have hll:(fcA f :: fcsL l).length = l.length + 1:=by simp
  refine ⟨fun h=>hZ 2 (h1 h),fun h=>⟨fun h'=>hZ 410 (h2 h (by have h':=of_decide_eq_true h'; have:((fcA f :: fcsL l).length:Int) ≥ 64:=h'; rw [hll] at this; simp only [List.length_cons]; omega)),fun h'=>⟨_,⟨k44⟩,.inl rfl,by rw [hll]; omega,rfl,_,_,_,_,_,_,_,_,_,_,_,⟨rfl⟩,?_⟩⟩⟩
  have h3:=h3 h (by have h':=of_decide_eq_false h'; have h':¬ ((fcA f :: fcsL l).length:Int) ≥ 64:=h'; rw [hll] at h'; simp only [List.length_cons]; omega)
  rw [hw h]
  simp only [Prod.mk.injEq,SdI.mk.injEq] at h3
  obtain ⟨⟨rfl,rfl,rfl⟩,rfl,rfl⟩:=h3
  exact ⟨⟨⟨rfl,rfl,⟨rfl,by rw [show fcsL (f :: l ++ [_]) = fcA f :: (fcsL l ++ [_]) from by simp [fcsL]; rfl]; rfl,.inl rfl⟩,trivial⟩,⟨rfl,rfl,rfl,rfl,rfl,rfl,rfl,rfl,rfl,rfl,⟨rfl,rfl,.inl rfl⟩,trivial⟩,rfl,trivial⟩,rfl,rfl⟩
end Go.Abs
namespace Go.Abs
open Go.Proofs
structure EnI where
 tick:Int
 kind:Int
 f:FcI
deriving DecidableEq,Inhabited
def enA (e:EnI):AV:=.agg [.opq,.int .i64 e.tick,.int .i64 e.kind,.str e.f.src,.int .i64 e.f.seq,.int .i64 e.f.kind,.int .i64 e.f.ref,.str e.f.table,.str e.f.key,.int .i64 e.f.event,.sl 3 (vasL e.f.fs) .no,.opq,.opq,.opq,.opq,.opq,.opq,.opq,.opq,.opq,.opq,.opq,.opq,.opq,.opq,.opq,.opq,.opq,.opq,.opq,.opq,.opq,.opq,.opq,.opq,.opq,.opq,.opq,.opq,.opq]
abbrev ensL (l:List EnI):List AV:=l.map enA
def isOpq:AV→Bool
 | .opq=>true
 | _=>false
def unE:AV→Option EnI
 | .agg (.opq :: .int .i64 tick :: .int .i64 kind :: .str src :: .int .i64 seq :: .int .i64 k2 :: .int .i64 ref :: .str table :: .str key :: .int .i64 event :: .sl sz es .no :: rest)=>if sz = 3∧rest.length = 29∧rest.all isOpq = true then (unL unV es).map fun fs=>⟨tick,kind,⟨src,seq,k2,ref,table,key,event,fs⟩⟩ else none
 | _=>none
def relB (tick:Int) (e:EnI):Bool:=decide (e.kind = 1) && decide (e.tick≤tick)
def metL (tick:Int) (l:List EnI):List EnI:=l.filter (relB tick)
abbrev idA (s:List UInt8) (n:Int):AV:=.agg [.str s,.int .i64 n]
def idsM (L:List EnI):List AV:=L.foldl (fun m e=>keptPutM m (idA e.f.src e.f.seq) (.bool true)) []
def srcM (L:List EnI):List AV:=L.foldl (fun m e=>keptPutM m (.str e.f.src) (.bool true)) []
def hasId (L:List EnI) (s:List UInt8) (n:Int):Bool:=L.any fun e=>decide (e.f.src = s) && decide (e.f.seq = n)
def nextF (has:Int→Bool):Nat→Int→Int
 | 0,n=>n
 | k + 1,n=>if has n then nextF has k (n + 1) else n
def nextM (L:List EnI) (s:List UInt8):Int:=nextF (hasId L s) L.length 1
def mkOf (L:List EnI) (s:List UInt8):MkI:=⟨s,nextM L s⟩
def nmsM (L:List EnI):List (List UInt8):=keptSort (keysM (srcM L))
def marksM (L:List EnI):List MkI:=(nmsM L).map (mkOf L)
def insN (s:List UInt8) (l:List (List UInt8)):List (List UInt8):=
 let k:=(l.takeWhile fun a=>Op.bytesLess a s).length
 if l[k]? = some s then l else l.take k ++ [s] ++ l.drop k
def nmsR (L:List EnI):List (List UInt8):=L.foldl (fun m e=>insN e.f.src m) []
def idsOk (l:List EnI):Bool:=l.all fun e=>decide (e.f.src.length≤140737488351232) && decide (-9223372036854775808≤e.f.seq) && decide (e.f.seq≤9223372036854775807)
def s15:Spec:=fun args=>match args with
 | [.sl sz es .no,.int .i64 tick]=>if sz = 40∧es.length≤2000000 then (match unL unE es with
  | some l=>if idsOk l = true then some (.sl 2 (mksL (marksM (metL tick l))) .no,[]) else none
  | none=>none) else none
 | _=>none
abbrev shEn:Sh × Option TypeId:=(.val (.agg [.is .opq,.int .i64,.int .i64,.str,.int .i64,.int .i64,.int .i64,.str,.str,.int .i64,.sl 3 .no,.is .opq,.is .opq,.is .opq,.is .opq,.is .opq,.is .opq,.is .opq,.is .opq,.is .opq,.is .opq,.is .opq,.is .opq,.is .opq,.is .opq,.is .opq,.is .opq,.is .opq,.is .opq,.is .opq,.is .opq,.is .opq,.is .opq,.is .opq,.is .opq,.is .opq,.is .opq,.is .opq,.is .opq,.is .opq]),none)
def XMa:Shapes:=fun f=>match f with
 | 42 | 7 | 9 | 14=>some shB
 | 15 | 16=>some (.val (.one (.sl 2 .no)),none)
 | 2000063=>some shEn
 | _=>none
abbrev SM0 (L:List EnI):St:=⟨[some (mapC 111 L.length (idsM L)),some (mapC 112 L.length (srcM L))],[]⟩
structure St15 where
 i:Nat
 j:Nat
 s:List UInt8
def a15 (l:List EnI) (tick:Int):Anns:=⟨fun k=>match k with
 | 4=>some { α:=Nat,slots:=[1,4,5,6,14,15,16],nb:=2,vals:=fun n=>[.int .i64 tick,.sl 0 [] .nil,.mp 0,.mp 1,.sl 40 (ensL l) .no,.int .i64 l.length,.int .i64 n],sS:=fun n=>SM0 (metL tick (l.take n)),I:=fun n=>n≤l.length,μ:=fun n=>l.length - n }
 | 11=>some { α:=Nat,slots:=[4,5,41,42,43],nb:=3,vals:=fun n=>[.sl 2 (mksL ((marksM (metL tick l)).take n)) (.tok 0),.mp 0,.sl 1 ((nmsM (metL tick l)).map .str) .no,.int .i64 (nmsM (metL tick l)).length,.int .i64 n],sS:=fun n=>⟨[some (mapC 111 (metL tick l).length (idsM (metL tick l))),some (mapC 112 (metL tick l).length (srcM (metL tick l))),some [.mp 1]],[(((marksM (metL tick l)).take n).length,93)]⟩,I:=fun n=>n≤(nmsM (metL tick l)).length,μ:=fun n=>(nmsM (metL tick l)).length - n,mint:=[(4,93)] }
 | 14=>some { α:=St15,slots:=[4,5,10,11,41,42,43],nb:=4,vals:=fun n=>[.sl 2 (mksL ((marksM (metL tick l)).take n.i)) (.tok 0),.mp 0,.str n.s,.ptr 3 0,.sl 1 ((nmsM (metL tick l)).map .str) .no,.int .i64 (nmsM (metL tick l)).length,.int .i64 n.i],sS:=fun n=>⟨[some (mapC 111 (metL tick l).length (idsM (metL tick l))),some (mapC 112 (metL tick l).length (srcM (metL tick l))),some [.mp 1],some [.str n.s,.int .i64 (n.j + 1)]],[(((marksM (metL tick l)).take n.i).length,93)]⟩,I:=fun n=>(nmsM (metL tick l))[n.i]? = some n.s∧n.j≤(metL tick l).length∧(∀ k:Nat,k < n.j→hasId (metL tick l) n.s (k + 1) = true)∧nextF (hasId (metL tick l) n.s) ((metL tick l).length - n.j) (n.j + 1) = nextM (metL tick l) n.s,μ:=fun n=>(metL tick l).length - n.j,link:=some fun T n=>T[43]? = some (.int .i64 n.i) }
 | _=>none,nA⟩
theorem w15 (m:Int) (l:List EnI) (tick:Int):(laxW PI (GI m) XMa (tbl []) (itbl [(41,s41),(40,s40)]) (a15 l tick) [] 15 [.sl 40 (ensL l) .no,.int .i64 tick] (.sl 2 (mksL (marksM (metL tick l))) .no,[])) =
((∃ (y : Nat),
  ValsAre
    [AV.int IntKind.i64 tick,AV.sl ((0:Nat)) [] Own.nil,AV.mp ((0:Nat)),AV.mp ((1:Nat)),AV.sl ((40:Nat)) (ensL l) Own.no,
     AV.int IntKind.i64 (↑(ensL l).length:Int),AV.int IntKind.i64 (0:Int)]
    [AV.int IntKind.i64 tick,AV.sl ((0:Nat)) [] Own.nil,AV.mp ((0:Nat)),AV.mp ((1:Nat)),AV.sl ((40:Nat)) (ensL l) Own.no,
     AV.int IntKind.i64 (↑l.length:Int),AV.int IntKind.i64 (↑y:Int)] ∧
   StIs
     {
      boxes:=
       [some [AV.tup [AV.int IntKind.i64 (111:Int),AV.int IntKind.i64 (0:Int),AV.tup []]],
        some [AV.tup [AV.int IntKind.i64 (112:Int),AV.int IntKind.i64 (0:Int),AV.tup []]]],
      live:=[] }
     {
      boxes:=
       [some
         [AV.tup
           [AV.int IntKind.i64 (111:Int),AV.int IntKind.i64 (↑(metL tick (List.take y l)).length:Int),
            AV.tup (idsM (metL tick (List.take y l)))]],
        some
         [AV.tup
           [AV.int IntKind.i64 (112:Int),AV.int IntKind.i64 (↑(metL tick (List.take y l)).length:Int),
            AV.tup (srcM (metL tick (List.take y l)))]]],
      live:=[] } ∧
    y≤l.length∧True) ∧
 ∀ (x:Nat),
  x≤l.length →
   (decide ((↑x:Int) < (↑l.length:Int)) = true →
     ((0:Int)≤(↑x:Int)∧(↑x:Int) < (↑(ensL l).length:Int)) ∧
      ∃ (n:Int),
       ∃ (n_1:Int),
        ∃ (s:List UInt8),
         ∃ (n_2:Int),
          ∃ (n_3:Int),
           ∃ (n_4:Int),
            ∃ (s_1:List UInt8),
             ∃ (s_2:List UInt8),
              ∃ (n_5:Int),
               ∃ (es:List AV),
                takeAt PI ((63:Nat)) (ensL l) (↑x:Int).toNat ((0:Nat)) =
                  some
                   (AV.agg
                    [AV.opq,AV.int IntKind.i64 n,AV.int IntKind.i64 n_1,AV.str s,AV.int IntKind.i64 n_2,AV.int IntKind.i64 n_3,
                     AV.int IntKind.i64 n_4,AV.str s_1,AV.str s_2,AV.int IntKind.i64 n_5,AV.sl ((3:Nat)) es Own.no,AV.opq,AV.opq,
                     AV.opq,AV.opq,AV.opq,AV.opq,AV.opq,AV.opq,AV.opq,AV.opq,AV.opq,AV.opq,AV.opq,AV.opq,AV.opq,AV.opq,
                     AV.opq,AV.opq,AV.opq,AV.opq,AV.opq,AV.opq,AV.opq,AV.opq,AV.opq,AV.opq,AV.opq,AV.opq,AV.opq]) ∧
                 ((n_1 == (1 : Int)) = true →
                   (decide (n≤tick) = true →
                     True ∧
                      KeyIs PI ((30:Nat)) (AV.agg [AV.str s,AV.int IntKind.i64 n_2]) ∧
                       ValIs (AV.bool true) ∧
                        (0:Int)≤(↑(metL tick (List.take x l)).length:Int) ∧
                         (↑(metL tick (List.take x l)).length:Int) < (70368744177664:Int) ∧
                          True ∧
                           KeyIs PI ((9:Nat)) (AV.str s) ∧
                            ValIs (AV.bool true) ∧
                             (0:Int)≤(↑(metL tick (List.take x l)).length:Int) ∧
                              (↑(metL tick (List.take x l)).length:Int) < (70368744177664:Int) ∧
                               ∃ (y:Nat),
                                ValsAre
                                  [AV.int IntKind.i64 tick,AV.sl ((0:Nat)) [] Own.nil,AV.mp ((0:Nat)),
                                   AV.mp ((1:Nat)),AV.sl ((40:Nat)) (ensL l) Own.no,
                                   AV.int IntKind.i64 (↑l.length:Int),
                                   AV.int IntKind.i64 (IntKind.i64.wrap ((↑x:Int) + (1:Int)))]
                                  [AV.int IntKind.i64 tick,AV.sl ((0:Nat)) [] Own.nil,AV.mp ((0:Nat)),
                                   AV.mp ((1:Nat)),AV.sl ((40:Nat)) (ensL l) Own.no,
                                   AV.int IntKind.i64 (↑l.length:Int),AV.int IntKind.i64 (↑y:Int)] ∧
                                 StIs
                                   {
                                    boxes:=
                                     [some
                                       [AV.tup
                                         [AV.int IntKind.i64 (111:Int),
                                          AV.int IntKind.i64
                                           ((↑(metL tick (List.take x l)).length:Int) + (1:Int)),
                                          AV.tup
                                           (keptPutM (idsM (metL tick (List.take x l)))
                                            (AV.agg [AV.str s,AV.int IntKind.i64 n_2]) (AV.bool true))]],
                                      some
                                       [AV.tup
                                         [AV.int IntKind.i64 (112:Int),
                                          AV.int IntKind.i64
                                           ((↑(metL tick (List.take x l)).length:Int) + (1:Int)),
                                          AV.tup
                                           (keptPutM (srcM (metL tick (List.take x l))) (AV.str s)
                                            (AV.bool true))]]],
                                    live:=[] }
                                   {
                                    boxes:=
                                     [some
                                       [AV.tup
                                         [AV.int IntKind.i64 (111:Int),
                                          AV.int IntKind.i64 (↑(metL tick (List.take y l)).length:Int),
                                          AV.tup (idsM (metL tick (List.take y l)))]],
                                      some
                                       [AV.tup
                                         [AV.int IntKind.i64 (112:Int),
                                          AV.int IntKind.i64 (↑(metL tick (List.take y l)).length:Int),
                                          AV.tup (srcM (metL tick (List.take y l)))]]],
                                    live:=[] } ∧
                                  y≤l.length∧l.length - y < l.length - x) ∧
                    (decide (n≤tick) = false →
                     ∃ (y:Nat),
                      ValsAre
                        [AV.int IntKind.i64 tick,AV.sl ((0:Nat)) [] Own.nil,AV.mp ((0:Nat)),AV.mp ((1:Nat)),
                         AV.sl ((40:Nat)) (ensL l) Own.no,AV.int IntKind.i64 (↑l.length:Int),
                         AV.int IntKind.i64 (IntKind.i64.wrap ((↑x:Int) + (1:Int)))]
                        [AV.int IntKind.i64 tick,AV.sl ((0:Nat)) [] Own.nil,AV.mp ((0:Nat)),AV.mp ((1:Nat)),
                         AV.sl ((40:Nat)) (ensL l) Own.no,AV.int IntKind.i64 (↑l.length:Int),AV.int IntKind.i64 (↑y:Int)] ∧
                       StIs
                         {
                          boxes:=
                           [some
                             [AV.tup
                               [AV.int IntKind.i64 (111:Int),AV.int IntKind.i64 (↑(metL tick (List.take x l)).length:Int),
                                AV.tup (idsM (metL tick (List.take x l)))]],
                            some
                             [AV.tup
                               [AV.int IntKind.i64 (112:Int),AV.int IntKind.i64 (↑(metL tick (List.take x l)).length:Int),
                                AV.tup (srcM (metL tick (List.take x l)))]]],
                          live:=[] }
                         {
                          boxes:=
                           [some
                             [AV.tup
                               [AV.int IntKind.i64 (111:Int),AV.int IntKind.i64 (↑(metL tick (List.take y l)).length:Int),
                                AV.tup (idsM (metL tick (List.take y l)))]],
                            some
                             [AV.tup
                               [AV.int IntKind.i64 (112:Int),AV.int IntKind.i64 (↑(metL tick (List.take y l)).length:Int),
                                AV.tup (srcM (metL tick (List.take y l)))]]],
                          live:=[] } ∧
                        y≤l.length∧l.length - y < l.length - x)) ∧
                  ((n_1 == (1:Int)) = false →
                   ∃ (y:Nat),
                    ValsAre
                      [AV.int IntKind.i64 tick,AV.sl ((0:Nat)) [] Own.nil,AV.mp ((0:Nat)),AV.mp ((1:Nat)),
                       AV.sl ((40:Nat)) (ensL l) Own.no,AV.int IntKind.i64 (↑l.length:Int),
                       AV.int IntKind.i64 (IntKind.i64.wrap ((↑x:Int) + (1:Int)))]
                      [AV.int IntKind.i64 tick,AV.sl ((0:Nat)) [] Own.nil,AV.mp ((0:Nat)),AV.mp ((1:Nat)),
                       AV.sl ((40:Nat)) (ensL l) Own.no,AV.int IntKind.i64 (↑l.length:Int),AV.int IntKind.i64 (↑y:Int)] ∧
                     StIs
                       {
                        boxes:=
                         [some
                           [AV.tup
                             [AV.int IntKind.i64 (111:Int),AV.int IntKind.i64 (↑(metL tick (List.take x l)).length:Int),
                              AV.tup (idsM (metL tick (List.take x l)))]],
                          some
                           [AV.tup
                             [AV.int IntKind.i64 (112:Int),AV.int IntKind.i64 (↑(metL tick (List.take x l)).length:Int),
                              AV.tup (srcM (metL tick (List.take x l)))]]],
                        live:=[] }
                       {
                        boxes:=
                         [some
                           [AV.tup
                             [AV.int IntKind.i64 (111:Int),AV.int IntKind.i64 (↑(metL tick (List.take y l)).length:Int),
                              AV.tup (idsM (metL tick (List.take y l)))]],
                          some
                           [AV.tup
                             [AV.int IntKind.i64 (112:Int),AV.int IntKind.i64 (↑(metL tick (List.take y l)).length:Int),
                              AV.tup (srcM (metL tick (List.take y l)))]]],
                        live:=[] } ∧
                      y≤l.length∧l.length - y < l.length - x)) ∧
    (decide ((↑x:Int) < (↑l.length:Int)) = false →
     True ∧
      ((keysM (srcM (metL tick (List.take x l)))).Nodup∧(↑(metL tick (List.take x l)).length:Int)≤(1000000000000:Int)) ∧
       (∃ (y:Nat),
         ValsAre
           [AV.sl ((2:Nat)) [] (Own.tok (0:Nat)),AV.mp ((0:Nat)),
            AV.sl ((1:Nat)) (List.map AV.str (keptSort (keysM (srcM (metL tick (List.take x l)))))) Own.no,
            AV.int IntKind.i64 (↑(List.map AV.str (keptSort (keysM (srcM (metL tick (List.take x l)))))).length:Int),
            AV.int IntKind.i64 (0:Int)]
           [AV.sl ((2:Nat)) (mksL (List.take y (marksM (metL tick l)))) (Own.tok ((0:Nat))),AV.mp ((0:Nat)),
            AV.sl ((1:Nat)) (List.map AV.str (nmsM (metL tick l))) Own.no,AV.int IntKind.i64 (↑(nmsM (metL tick l)).length:Int),
            AV.int IntKind.i64 (↑y:Int)] ∧
          StIs
            {
             boxes:=
              [some
                [AV.tup
                  [AV.int IntKind.i64 (111:Int),AV.int IntKind.i64 (↑(metL tick (List.take x l)).length:Int),
                   AV.tup (idsM (metL tick (List.take x l)))]],
               some
                [AV.tup
                  [AV.int IntKind.i64 (112:Int),AV.int IntKind.i64 (↑(metL tick (List.take x l)).length:Int),
                   AV.tup (srcM (metL tick (List.take x l)))]],
               some [AV.mp ((1:Nat))]],
             live:=[((0:Nat),(93:Nat))] }
            {
             boxes:=
              [some [AV.tup [AV.int IntKind.i64 (111:Int),AV.int IntKind.i64 (↑(metL tick l).length:Int),AV.tup (idsM (metL tick l))]],
               some [AV.tup [AV.int IntKind.i64 (112:Int),AV.int IntKind.i64 (↑(metL tick l).length:Int),AV.tup (srcM (metL tick l))]],
               some [AV.mp ((1:Nat))]],
             live:=[((List.take y (marksM (metL tick l))).length,(93:Nat))] } ∧
           y≤(nmsM (metL tick l)).length∧True) ∧
        ∀ (x:Nat),
         x≤(nmsM (metL tick l)).length →
          (decide ((↑x:Int) < (↑(nmsM (metL tick l)).length:Int)) = true →
            ((0:Int)≤(↑x:Int)∧(↑x:Int) < (↑(List.map AV.str (nmsM (metL tick l))).length:Int)) ∧
             ∃ (s:List UInt8),
              takeAt PI ((9:Nat)) (List.map AV.str (nmsM (metL tick l))) (↑x:Int).toNat ((0:Nat)) = some (AV.str s) ∧
               (∃ (y:St15),
                 ValsAre
                   [AV.sl ((2:Nat)) (mksL (List.take x (marksM (metL tick l)))) (Own.tok ((0:Nat))),AV.mp ((0:Nat)),AV.str s,
                    AV.ptr ((3:Nat)) ((0:Nat)),AV.sl ((1:Nat)) (List.map AV.str (nmsM (metL tick l))) Own.no,
                    AV.int IntKind.i64 (↑(nmsM (metL tick l)).length:Int),AV.int IntKind.i64 (↑x:Int)]
                   [AV.sl ((2:Nat)) (mksL (List.take y.i (marksM (metL tick l)))) (Own.tok ((0:Nat))),AV.mp ((0:Nat)),AV.str y.s,
                    AV.ptr ((3:Nat)) ((0:Nat)),AV.sl ((1:Nat)) (List.map AV.str (nmsM (metL tick l))) Own.no,
                    AV.int IntKind.i64 (↑(nmsM (metL tick l)).length:Int),AV.int IntKind.i64 (↑y.i:Int)] ∧
                  StIs
                    {
                     boxes:=
                      [some
                        [AV.tup
                          [AV.int IntKind.i64 (111:Int),AV.int IntKind.i64 (↑(metL tick l).length:Int),
                           AV.tup (idsM (metL tick l))]],
                       some
                        [AV.tup
                          [AV.int IntKind.i64 (112:Int),AV.int IntKind.i64 (↑(metL tick l).length:Int),
                           AV.tup (srcM (metL tick l))]],
                       some [AV.mp ((1:Nat))],some [AV.str s,AV.int IntKind.i64 (1:Int)]],
                     live:=[((List.take x (marksM (metL tick l))).length,(93:Nat))] }
                    {
                     boxes:=
                      [some
                        [AV.tup
                          [AV.int IntKind.i64 (111:Int),AV.int IntKind.i64 (↑(metL tick l).length:Int),
                           AV.tup (idsM (metL tick l))]],
                       some
                        [AV.tup
                          [AV.int IntKind.i64 (112:Int),AV.int IntKind.i64 (↑(metL tick l).length:Int),
                           AV.tup (srcM (metL tick l))]],
                       some [AV.mp ((1:Nat))],some [AV.str y.s,AV.int IntKind.i64 ((↑y.j:Int) + (1:Int))]],
                     live:=[((List.take y.i (marksM (metL tick l))).length,(93:Nat))] } ∧
                   ((nmsM (metL tick l))[y.i]? = some y.s ∧
                     y.j≤(metL tick l).length ∧
                      (∀ (k:Nat),k < y.j→hasId (metL tick l) y.s ((↑k:Int) + (1:Int)) = true) ∧
                       nextF (hasId (metL tick l) y.s) ((metL tick l).length - y.j) ((↑y.j:Int) + (1:Int)) =
                        nextM (metL tick l) y.s) ∧
                    some (AV.int IntKind.i64 (↑x:Int)) = some (AV.int IntKind.i64 (↑y.i:Int))) ∧
                ∀ (x_1:St15),
                 (nmsM (metL tick l))[x_1.i]? = some x_1.s ∧
                   x_1.j≤(metL tick l).length ∧
                    (∀ (k:Nat),k < x_1.j→hasId (metL tick l) x_1.s ((↑k:Int) + (1:Int)) = true) ∧
                     nextF (hasId (metL tick l) x_1.s) ((metL tick l).length - x_1.j) ((↑x_1.j:Int) + (1:Int)) =
                      nextM (metL tick l) x_1.s →
                  some (AV.int IntKind.i64 (↑x:Int)) = some (AV.int IntKind.i64 (↑x_1.i:Int)) →
                   KeyIs PI ((30:Nat)) (AV.agg [AV.str x_1.s,AV.int IntKind.i64 ((↑x_1.j:Int) + (1:Int))]) ∧
                    ∃ (b:Bool),
                     LookIs (idsM (metL tick l)) (AV.agg [AV.str x_1.s,AV.int IntKind.i64 ((↑x_1.j:Int) + (1:Int))]) (AV.bool false)
                       (AV.bool b) ∧
                      (b = true →
                        ∃ (y:St15),
                         ValsAre
                           [AV.sl ((2:Nat)) (mksL (List.take x_1.i (marksM (metL tick l)))) (Own.tok ((0:Nat))),
                            AV.mp ((0:Nat)),AV.str x_1.s,AV.ptr ((3:Nat)) ((0:Nat)),
                            AV.sl ((1:Nat)) (List.map AV.str (nmsM (metL tick l))) Own.no,
                            AV.int IntKind.i64 (↑(nmsM (metL tick l)).length:Int),AV.int IntKind.i64 (↑x_1.i:Int)]
                           [AV.sl ((2:Nat)) (mksL (List.take y.i (marksM (metL tick l)))) (Own.tok ((0:Nat))),AV.mp ((0:Nat)),
                            AV.str y.s,AV.ptr ((3:Nat)) ((0:Nat)),
                            AV.sl ((1:Nat)) (List.map AV.str (nmsM (metL tick l))) Own.no,
                            AV.int IntKind.i64 (↑(nmsM (metL tick l)).length:Int),AV.int IntKind.i64 (↑y.i:Int)] ∧
                          StIs
                            {
                             boxes:=
                              [some
                                [AV.tup
                                  [AV.int IntKind.i64 (111:Int),AV.int IntKind.i64 (↑(metL tick l).length:Int),
                                   AV.tup (idsM (metL tick l))]],
                               some
                                [AV.tup
                                  [AV.int IntKind.i64 (112:Int),AV.int IntKind.i64 (↑(metL tick l).length:Int),
                                   AV.tup (srcM (metL tick l))]],
                               some [AV.mp ((1:Nat))],
                               some
                                [AV.str x_1.s,AV.int IntKind.i64 (IntKind.i64.wrap ((↑x_1.j:Int) + (1:Int) + (1:Int)))]],
                             live:=[((List.take x_1.i (marksM (metL tick l))).length,(93:Nat))] }
                            {
                             boxes:=
                              [some
                                [AV.tup
                                  [AV.int IntKind.i64 (111:Int),AV.int IntKind.i64 (↑(metL tick l).length:Int),
                                   AV.tup (idsM (metL tick l))]],
                               some
                                [AV.tup
                                  [AV.int IntKind.i64 (112:Int),AV.int IntKind.i64 (↑(metL tick l).length:Int),
                                   AV.tup (srcM (metL tick l))]],
                               some [AV.mp ((1:Nat))],some [AV.str y.s,AV.int IntKind.i64 ((↑y.j:Int) + (1:Int))]],
                             live:=[((List.take y.i (marksM (metL tick l))).length,(93:Nat))] } ∧
                           ((nmsM (metL tick l))[y.i]? = some y.s ∧
                             y.j≤(metL tick l).length ∧
                              (∀ (k:Nat),k < y.j→hasId (metL tick l) y.s ((↑k:Int) + (1:Int)) = true) ∧
                               nextF (hasId (metL tick l) y.s) ((metL tick l).length - y.j) ((↑y.j:Int) + (1:Int)) =
                                nextM (metL tick l) y.s) ∧
                            some (AV.int IntKind.i64 (↑x:Int)) = some (AV.int IntKind.i64 (↑y.i:Int)) ∧
                             (metL tick l).length - y.j < (metL tick l).length - x_1.j) ∧
                       (b = false →
                        ((2:Nat) = (2:Nat)∨mksL (List.take x_1.i (marksM (metL tick l))) = []) ∧
                         ((mksL (List.take x_1.i (marksM (metL tick l)))).length + (1:Nat)) * (25:Nat)≤(70368744177664:Nat) ∧
                          (List.take x_1.i (marksM (metL tick l))).length = (mksL (List.take x_1.i (marksM (metL tick l)))).length ∧
                           ∃ (y:Nat),
                            ValsAre
                              [AV.sl ((2:Nat))
                                (mksL (List.take x_1.i (marksM (metL tick l))) ++
                                 [AV.agg [AV.str x_1.s,AV.int IntKind.i64 ((↑x_1.j:Int) + (1:Int))]])
                                (Own.tok ((0:Nat))),
                               AV.mp ((0:Nat)),AV.sl ((1:Nat)) (List.map AV.str (nmsM (metL tick l))) Own.no,
                               AV.int IntKind.i64 (↑(nmsM (metL tick l)).length:Int),
                               AV.int IntKind.i64 (IntKind.i64.wrap ((↑x_1.i:Int) + (1:Int)))]
                              [AV.sl ((2:Nat)) (mksL (List.take y (marksM (metL tick l)))) (Own.tok ((0:Nat))),
                               AV.mp ((0:Nat)),AV.sl ((1:Nat)) (List.map AV.str (nmsM (metL tick l))) Own.no,
                               AV.int IntKind.i64 (↑(nmsM (metL tick l)).length:Int),AV.int IntKind.i64 (↑y:Int)] ∧
                             StIs
                               {
                                boxes:=
                                 [some
                                   [AV.tup
                                     [AV.int IntKind.i64 (111:Int),AV.int IntKind.i64 (↑(metL tick l).length:Int),
                                      AV.tup (idsM (metL tick l))]],
                                  some
                                   [AV.tup
                                     [AV.int IntKind.i64 (112:Int),AV.int IntKind.i64 (↑(metL tick l).length:Int),
                                      AV.tup (srcM (metL tick l))]],
                                  some [AV.mp ((1:Nat))]],
                                live:=[((mksL (List.take x_1.i (marksM (metL tick l)))).length + (1:Nat),(93:Nat))] }
                               {
                                boxes:=
                                 [some
                                   [AV.tup
                                     [AV.int IntKind.i64 (111:Int),AV.int IntKind.i64 (↑(metL tick l).length:Int),
                                      AV.tup (idsM (metL tick l))]],
                                  some
                                   [AV.tup
                                     [AV.int IntKind.i64 (112:Int),AV.int IntKind.i64 (↑(metL tick l).length:Int),
                                      AV.tup (srcM (metL tick l))]],
                                  some [AV.mp ((1:Nat))]],
                                live:=[((List.take y (marksM (metL tick l))).length,(93:Nat))] } ∧
                              y≤(nmsM (metL tick l)).length ∧
                               (nmsM (metL tick l)).length - y < (nmsM (metL tick l)).length - x)) ∧
           (decide ((↑x:Int) < (↑(nmsM (metL tick l)).length:Int)) = false →
            RetLax (AV.sl ((2:Nat)) (mksL (List.take x (marksM (metL tick l)))) (Own.tok ((0:Nat))))
             (AV.sl ((2:Nat)) (mksL (marksM (metL tick l))) Own.no,[])))):=by kernel_rfl
end Go.Abs
namespace Go.Abs
open Go.Proofs Go.RowKit
/-! sets as lists -/
section
variable {α : Type} [DecidableEq α]
def addU (x:α) (l:List α):List α:=if x ∈ l then l else l ++ [x]
theorem mem_addU {x y:α} {l:List α}:y ∈ addU x l ↔ y = x∨y ∈ l:=by
 unfold addU
 split
 ·constructor
  ·exact .inr
  ·rintro (rfl | h)
   ·assumption
   ·exact h
 ·simp only [List.mem_append,List.mem_singleton]
  exact Or.comm
theorem nodup_addU {x:α} {l:List α} (h:l.Nodup):(addU x l).Nodup:=by
 unfold addU
 split
 ·exact h
 ·rename_i hx
  exact List.nodup_append.2 ⟨h,by simp,by simp; exact fun a ha e=>hx (e ▸ ha)⟩
abbrev setA (k:α→AV) (l:List α):List AV:=l.map fun a=>.tup [k a,.bool true]
theorem put_setA {k:α→AV} (hk:∀ a b,keyEq (k a) (k b) = decide (a = b)) (x:α):∀ l:List α,keptPutM (setA k l) (k x) (.bool true) = setA k (addU x l)
 | []=>by simp [setA,keptPutM,addU]
 | a :: l=>by
  simp only [setA,List.map_cons,keptPutM,hk]
  by_cases e:a = x
  ·subst e; simp [addU]
  ·rw [if_neg (by simpa using e),put_setA hk x l]
   have hne:¬ x = a:=fun h=>e h.symm
   unfold addU
   by_cases hx:x ∈ l
   ·simp [hx,setA]
   ·simp [hx,hne,setA]
theorem look_setA {k:α→AV} (hk:∀ a b,keyEq (k a) (k b) = decide (a = b)) (x:α):∀ l:List α,lookM (setA k l) (k x) = if x ∈ l then some (.bool true) else none
 | []=>rfl
 | a :: l=>by
  simp only [setA,List.map_cons,lookM,hk]
  by_cases e:a = x
  ·subst e; simp
  ·have hne:¬ x = a:=fun h=>e h.symm
   rw [if_neg (by simpa using e),look_setA hk x l]
   simp [hne]
def uniq {β:Type} (f:β→α) (L:List β):List α:=L.foldl (fun m e=>addU (f e) m) []
theorem uniq_acc {β:Type} {f:β→α}:∀ (L:List β) (m:List α),m.Nodup→(L.foldl (fun m e=>addU (f e) m) m).Nodup∧∀ y,y ∈ L.foldl (fun m e=>addU (f e) m) m ↔ y ∈ m∨∃ e ∈ L,f e = y
 | [],m,h=>⟨h,fun y=>by simp⟩
 | e :: L,m,h=>by
  obtain ⟨h1,h2⟩:=uniq_acc (f:=f) L (addU (f e) m) (nodup_addU h)
  refine ⟨h1,fun y=>?_⟩
  simp only [List.foldl_cons]
  rw [h2,mem_addU]
  constructor
  ·rintro ((rfl | hm) | ⟨e',he,rfl⟩)
   ·exact .inr ⟨e,by simp,rfl⟩
   ·exact .inl hm
   ·exact .inr ⟨e',by simp [he],rfl⟩
  ·rintro (hm | ⟨e',he,rfl⟩)
   ·exact .inl (.inr hm)
   ·rcases List.mem_cons.1 he with rfl | he
    ·exact .inl (.inl rfl)
    ·exact .inr ⟨e',he,rfl⟩
theorem uniq_mem {β:Type} {f:β→α} {L:List β} {y:α}:y ∈ uniq f L ↔ ∃ e ∈ L,f e = y:=by
 unfold uniq; rw [(uniq_acc L [] List.nodup_nil).2]; simp
theorem uniq_nodup {β:Type} {f:β→α} {L:List β}:(uniq f L).Nodup:=(uniq_acc L [] List.nodup_nil).1
theorem fold_setA {β:Type} {f:β→α} {k:α→AV} (hk:∀ a b,keyEq (k a) (k b) = decide (a = b)):∀ (L:List β) (m:List α),L.foldl (fun m e=>keptPutM m (k (f e)) (.bool true)) (setA k m) = setA k (L.foldl (fun m e=>addU (f e) m) m)
 | [],m=>rfl
 | e :: L,m=>by
  simp only [List.foldl_cons]
  rw [put_setA hk]
  exact fold_setA hk L _
end
/-! the two maps -/
theorem key_id (a b:List UInt8 × Int):keyEq (idA a.1 a.2) (idA b.1 b.2) = decide (a = b):=by
 obtain ⟨s,n⟩:=a
 obtain ⟨t,q⟩:=b
 simp only [keyEq,decide_true,Bool.true_and]
 by_cases h1:s = t <;> by_cases h2:n = q <;> simp [h1,h2]
theorem key_str (a b:List UInt8):keyEq (.str a) (.str b) = decide (a = b):=by
 simp only [keyEq]
 by_cases h:a = b <;> simp [h]
theorem idsM_eq (L:List EnI):idsM L = setA (fun p:List UInt8 × Int=>idA p.1 p.2) (uniq (fun e:EnI=>(e.f.src,e.f.seq)) L):=fold_setA (f:=fun e:EnI=>(e.f.src,e.f.seq)) key_id L []
theorem srcM_eq (L:List EnI):srcM L = setA AV.str (uniq (fun e:EnI=>e.f.src) L):=fold_setA (f:=fun e:EnI=>e.f.src) key_str L []
theorem keysM_set:∀ l:List (List UInt8),keysM (setA AV.str l) = l
 | []=>rfl
 | a :: l=>by simp only [setA,List.map_cons,keysM]; rw [show keysM (List.map (fun a=>AV.tup [.str a,.bool true]) l) = l from keysM_set l]
theorem look_ids (L:List EnI) (s:List UInt8) (n:Int):lookM (idsM L) (idA s n) = if hasId L s n = true then some (.bool true) else none:=by
 rw [idsM_eq]
 have:=look_setA (k:=fun p:List UInt8 × Int=>idA p.1 p.2) key_id (s,n) (uniq (fun e:EnI=>(e.f.src,e.f.seq)) L)
 simp only at this
 rw [this]
 have e:((s,n) ∈ uniq (fun e:EnI=>(e.f.src,e.f.seq)) L) ↔ hasId L s n = true:=by
  rw [uniq_mem]
  simp only [hasId,List.any_eq_true,Bool.and_eq_true,decide_eq_true_eq,Prod.mk.injEq]
 by_cases h:hasId L s n = true
 ·rw [if_pos h,if_pos (e.2 h)]
 ·rw [if_neg h,if_neg (fun h'=>h (e.1 h'))]
theorem nmsM_eq (L:List EnI):nmsM L = keptSort (uniq (fun e:EnI=>e.f.src) L):=by
 unfold nmsM; rw [srcM_eq,keysM_set]
theorem nms_nodup (L:List EnI):(keysM (srcM L)).Nodup:=by rw [srcM_eq,keysM_set]; exact uniq_nodup
theorem mem_nmsM {L:List EnI} {s:List UInt8}:s ∈ nmsM L ↔ ∃ e ∈ L,e.f.src = s:=by
 rw [nmsM_eq,(keptSort_perm _).mem_iff,uniq_mem]
theorem metL_next {tick:Int} {l:List EnI} {i:Nat} {e:EnI} (h:l[i]? = some e):metL tick (l.take (i + 1)) = metL tick (l.take i) ++ (if relB tick e = true then [e] else []):=by
 obtain ⟨hi,rfl⟩:=List.getElem?_eq_some_iff.1 h
 unfold metL
 rw [List.take_succ_eq_append_getElem hi,List.filter_append]
 generalize l[i] = e
 congr 1
 by_cases hr:relB tick e = true
 ·rw [if_pos hr,List.filter_cons_of_pos hr]; rfl
 ·rw [if_neg hr,List.filter_cons_of_neg hr]; rfl
theorem metL_len (tick:Int) (l:List EnI):(metL tick l).length≤l.length:=List.length_filter_le ..
theorem idsM_snoc (L:List EnI) (e:EnI):idsM (L ++ [e]) = keptPutM (idsM L) (idA e.f.src e.f.seq) (.bool true):=by simp [idsM,List.foldl_append]
theorem srcM_snoc (L:List EnI) (e:EnI):srcM (L ++ [e]) = keptPutM (srcM L) (.str e.f.src) (.bool true):=by simp [srcM,List.foldl_append]
/-! the next number -/
theorem nodup_len {α:Type} [DecidableEq α]:∀ {l m:List α},l.Nodup→(∀ x ∈ l,x ∈ m)→l.length≤m.length
 | [],m,_,_=>Nat.zero_le _
 | x :: l,m,h,hs=>by
  obtain ⟨h1,h2⟩:=List.nodup_cons.1 h
  have hx:=hs x (by simp)
  have:=nodup_len (l:=l) (m:=m.erase x) h2 fun y hy=>(List.mem_erase_of_ne (fun e:y = x=>h1 (by rw [← e]; exact hy))).2 (hs y (by simp [hy]))
  rw [List.length_erase_of_mem hx] at this
  have:=List.length_pos_of_mem hx
  simp; omega
theorem pigeon {L:List EnI} {s:List UInt8} {j:Nat} (h:∀ k:Nat,k < j→hasId L s (k + 1) = true):j≤L.length:=by
 have hsub:∀ x ∈ (List.range j).map fun k:Nat=>(k:Int) + 1,x ∈ L.map fun e=>e.f.seq:=fun x hx=>by
  obtain ⟨k,hk,rfl⟩:=List.mem_map.1 hx
  have:=h k (List.mem_range.1 hk)
  simp only [hasId,List.any_eq_true,Bool.and_eq_true,decide_eq_true_eq] at this
  obtain ⟨e,he,_,h2⟩:=this
  exact List.mem_map.2 ⟨e,he,h2⟩
 have hnd:((List.range j).map fun k:Nat=>(k:Int) + 1).Nodup:=by
  unfold List.Nodup
  rw [List.pairwise_map]
  exact List.nodup_range.imp fun h e=>h (by omega)
 have:=nodup_len hnd hsub
 simpa using this
theorem nextF_go {has:Int→Bool} {k:Nat} {n:Int} (h:has n = true):nextF has (k + 1) n = nextF has k (n + 1):=by simp [nextF,h]
theorem nextF_stop {has:Int→Bool} {k:Nat} {n:Int} (h:has n = false):nextF has k n = n:=by cases k <;> simp [nextF,h]
/-! names in their places -/
theorem insN_ok {s:List UInt8} {l:List (List UInt8)} (h:l.Pairwise (· < ·)):(insN s l).Pairwise (· < ·)∧∀ y,y ∈ insN s l ↔ y = s∨y ∈ l:=by
 have hd:l.takeWhile (fun a=>Op.bytesLess a s) ++ l.dropWhile (fun a=>Op.bytesLess a s) = l:=List.takeWhile_append_dropWhile
 obtain ⟨A,hA⟩:∃ A,l.takeWhile (fun a=>Op.bytesLess a s) = A:=⟨_,rfl⟩
 obtain ⟨B,hB⟩:∃ B,l.dropWhile (fun a=>Op.bytesLess a s) = B:=⟨_,rfl⟩
 have hAs:∀ a ∈ A,a < s:=fun a ha=>by
  have:(fun a=>Op.bytesLess a s) a = true:=List.all_eq_true.1 (List.all_takeWhile (p:=fun a=>Op.bytesLess a s) (l:=l)) a (hA ▸ ha)
  simpa [bytesLess_eq] using this
 have hBh:∀ b,B.head? = some b→¬ b < s:=fun b hb=>by
  have hne:l.dropWhile (fun a=>Op.bytesLess a s) ≠ []:=by rw [hB]; intro e; rw [e] at hb; cases hb
  have:=List.head_dropWhile_not (p:=fun a=>Op.bytesLess a s) (l:=l) hne
  have e:(l.dropWhile (fun a=>Op.bytesLess a s)).head hne = b:=by
   have:(l.dropWhile (fun a=>Op.bytesLess a s)).head? = some b:=by rw [hB]; exact hb
   rw [List.head?_eq_some_head hne] at this
   injection this
  rw [e] at this
  simpa [bytesLess_eq] using this
 rw [hA,hB] at hd
 subst hd
 unfold insN
 simp only [hA]
 rw [List.getElem?_append_right (Nat.le_refl _),Nat.sub_self,List.take_left' rfl,List.drop_left' rfl]
 obtain ⟨p1,p2,p3⟩:=List.pairwise_append.1 h
 cases B with
 | nil =>
  simp only [List.getElem?_nil,List.append_nil]
  rw [if_neg (by simp)]
  exact ⟨List.pairwise_append.2 ⟨p1,by simp,fun a ha b hb=>by simp at hb; subst hb; exact hAs a ha⟩,fun y=>by simp [or_comm]⟩
 | cons b B =>
  simp only [List.getElem?_cons_zero,Option.some.injEq]
  have hb:=hBh b rfl
  by_cases e:b = s
  ·subst e
   rw [if_pos rfl]
   exact ⟨h,fun y=>by simp; intro h; right; left; exact h⟩
  ·rw [if_neg e]
   have hsb:s < b:=by
    by_cases h':s < b
    ·exact h'
    ·exact absurd (List.le_antisymm (List.not_lt.1 h') (List.not_lt.1 hb)) e
   obtain ⟨p4,p5⟩:=List.pairwise_cons.1 p2
   refine ⟨?_,fun y=>by simp only [List.mem_append,List.mem_cons,List.not_mem_nil,or_false]; rw [@Or.comm (y ∈ A),or_assoc]⟩
   rw [List.append_assoc]
   refine List.pairwise_append.2 ⟨p1,?_,fun a ha c hc=>?_⟩
   ·simp only [List.singleton_append]
    exact List.pairwise_cons.2 ⟨fun c hc=>by
     rcases List.mem_cons.1 hc with rfl | hc
     ·exact hsb
     ·exact List.lt_trans hsb (p4 c hc),p2⟩
   ·simp only [List.singleton_append,List.mem_cons] at hc
    rcases hc with rfl | hc
    ·exact hAs a ha
    ·exact p3 a ha c (by simpa using hc)
theorem nmsR_acc:∀ (L:List EnI) (m:List (List UInt8)),m.Pairwise (· < ·)→(L.foldl (fun m e=>insN e.f.src m) m).Pairwise (· < ·)∧∀ y,y ∈ L.foldl (fun m e=>insN e.f.src m) m ↔ y ∈ m∨∃ e ∈ L,e.f.src = y
 | [],m,h=>⟨h,fun y=>by simp⟩
 | e :: L,m,h=>by
  obtain ⟨a1,a2⟩:=insN_ok (s:=e.f.src) h
  obtain ⟨h1,h2⟩:=nmsR_acc L _ a1
  refine ⟨h1,fun y=>?_⟩
  simp only [List.foldl_cons]
  rw [h2,a2]
  constructor
  ·rintro ((rfl | hm) | ⟨e',he,rfl⟩)
   ·exact .inr ⟨e,by simp,rfl⟩
   ·exact .inl hm
   ·exact .inr ⟨e',by simp [he],rfl⟩
  ·rintro (hm | ⟨e',he,rfl⟩)
   ·exact .inl (.inr hm)
   ·rcases List.mem_cons.1 he with rfl | he
    ·exact .inl (.inl rfl)
    ·exact .inr ⟨e',he,rfl⟩
theorem nmsR_sorted (L:List EnI):(nmsR L).Pairwise (· < ·):=(nmsR_acc L [] List.Pairwise.nil).1
theorem nmsR_eq (L:List EnI):nmsR L = nmsM L:=by
 have h1:=nmsR_sorted L
 have h2:∀ y,y ∈ nmsR L ↔ ∃ e ∈ L,e.f.src = y:=fun y=>by
  have:=(nmsR_acc L [] List.Pairwise.nil).2 y
  simpa [nmsR] using this
 have hnd:(nmsR L).Nodup:=h1.imp fun h e=>by subst e; exact List.lt_irrefl _ h
 have hnd2:(nmsM L).Nodup:=by rw [nmsM_eq]; exact (keptSort_perm _).nodup_iff.2 uniq_nodup
 refine List.Perm.eq_of_pairwise (le:=fun a b=>leB a b = true) (fun a b _ _ h1 h2=>?_) (h1.imp fun h=>?_) (by rw [nmsM_eq]; exact keptSort_sorted _) ((List.perm_ext_iff_of_nodup hnd hnd2).2 fun y=>by rw [h2,mem_nmsM])
 ·simp only [leB,decide_eq_true_eq] at h1 h2
  exact List.le_antisymm h1 h2
 ·simp only [leB,decide_eq_true_eq]
  exact List.le_of_lt h
theorem nmsR_len (L:List EnI):(nmsR L).length≤L.length:=by
 rw [nmsR_eq,nmsM_eq,(keptSort_perm _).length_eq]
 have hsub:∀ x ∈ uniq (fun e:EnI=>e.f.src) L,x ∈ L.map fun e=>e.f.src:=fun x hx=>by
  obtain ⟨e,he,rfl⟩:=uniq_mem.1 hx
  exact List.mem_map.2 ⟨e,he,rfl⟩
 have:=nodup_len uniq_nodup hsub
 simpa using this
end Go.Abs
namespace Go.Abs
open Go.Proofs Go.RowKit Go.Sort
abbrev Arr:=List (List UInt8 × Int)
structure BxS (S:Arr) (b:BxI):Prop where
 lo:1≤b.next
 seen:∀ k,1≤k→k < b.next→(b.src,k) ∈ S
 miss:(b.src,b.next) ∉ S
 asc:b.ahead.Pairwise (· < ·)
 mem:∀ k,k ∈ b.ahead ↔ ((b.src,k) ∈ S∧b.next < k)
structure Can (S:Arr) (r:List BxI):Prop where
 asc:r.Pairwise fun a b=>a.src < b.src
 box:∀ b ∈ r,BxS S b
 src:∀ s,(∃ b ∈ r,b.src = s) ↔ ∃ n,(s,n) ∈ S
theorem asc_ext {l m:List Int} (hl:l.Pairwise (· < ·)) (hm:m.Pairwise (· < ·)) (h:∀ x,x ∈ l ↔ x ∈ m):l = m:=by
 refine List.Perm.eq_of_pairwise (le:=fun a b:Int=>a≤b) (fun a b _ _ h1 h2=>by omega) (hl.imp fun h=>by omega) (hm.imp fun h=>by omega) ((List.perm_ext_iff_of_nodup ?_ ?_).2 h)
 ·exact hl.imp fun h e=>by omega
 ·exact hm.imp fun h e=>by omega
theorem BxS.ext {S:Arr} {b c:BxI} (hb:BxS S b) (hc:BxS S c) (h:b.src = c.src):b = c:=by
 have hn:b.next = c.next:=by
  rcases Int.lt_or_gt_of_ne (a:=b.next) (b:=c.next) |> fun f=>(Decidable.em (b.next = c.next)).elim Or.inl (fun h=>Or.inr (f h)) with h' | h' | h'
  ·exact h'
  ·exact absurd (h ▸ hc.seen b.next hb.lo h') hb.miss
  ·exact absurd (h ▸ hb.seen c.next hc.lo h') hc.miss
 have ha:b.ahead = c.ahead:=asc_ext hb.asc hc.asc fun x=>by rw [hb.mem,hc.mem,h,hn]
 obtain ⟨s,n,a⟩:=b
 obtain ⟨t,m,d⟩:=c
 simp only at h hn ha
 subst h; subst hn; subst ha; rfl
theorem BxS.congr {S T:Arr} {b:BxI} (h:BxS S b) (hST:∀ k,(b.src,k) ∈ S ↔ (b.src,k) ∈ T):BxS T b:=
 ⟨h.lo,fun k h1 h2=>(hST k).1 (h.seen k h1 h2),fun hm=>h.miss ((hST _).2 hm),h.asc,fun k=>by rw [h.mem,hST]⟩
theorem Can.congr {S T:Arr} {r:List BxI} (h:Can S r) (hST:∀ p,p ∈ S ↔ p ∈ T):Can T r:=
 ⟨h.asc,fun b hb=>(h.box b hb).congr fun k=>hST _,fun s=>by rw [h.src]; exact exists_congr fun n=>hST _⟩
theorem Can.ext {S:Arr} {r q:List BxI} (hr:Can S r) (hq:Can S q):r = q:=by
 have hnd:∀ {r:List BxI},(r.Pairwise fun a b=>a.src < b.src)→r.Nodup:=fun h=>h.imp fun h e=>by subst e; exact List.lt_irrefl _ h
 have hsub:∀ {r q:List BxI},Can S r→Can S q→∀ b,b ∈ r→b ∈ q:=fun hr hq b hb=>by
  obtain ⟨n,hn⟩:=(hr.src b.src).1 ⟨b,hb,rfl⟩
  obtain ⟨c,hc,e⟩:=(hq.src b.src).2 ⟨n,hn⟩
  rw [(hr.box b hb).ext (hq.box c hc) e.symm]; exact hc
 have hle:∀ {r:List BxI},(r.Pairwise fun a b=>a.src < b.src)→r.Pairwise fun a b=>a.src≤b.src:=fun h=>h.imp fun h=>List.le_of_lt h
 refine List.Perm.eq_of_pairwise (le:=fun a b:BxI=>a.src≤b.src) (fun a b ha hb h1 h2=>?_) (hle hr.asc) (hle hq.asc) ((List.perm_ext_iff_of_nodup (hnd hr.asc) (hnd hq.asc)).2 fun b=>⟨hsub hr hq b,hsub hq hr b⟩)
 exact (hr.box a ha).ext (hq.box b hb) (List.le_antisymm h1 h2)
theorem runS_more:∀ {S:List Int} {x:Int},S.Pairwise (· < ·)→(∀ y ∈ S,x≤y)→(∀ k,x≤k→k < (runS S x).1→k ∈ S)∧(runS S x).1 ∉ S∧∀ y ∈ S,y < (runS S x).1∨y ∈ (runS S x).2
 | [],x,_,_=>by simp only [runS]; exact ⟨fun k h1 h2=>by omega,by simp,by simp⟩
 | z :: S,x,hS,hx=>by
  obtain ⟨k1,k2⟩:=List.pairwise_cons.1 hS
  simp only [runS]
  split
  ·rename_i hz
   subst hz
   obtain ⟨h1,h2,h3⟩:=runS_more (x:=z + 1) k2 fun y hy=>by have:=k1 y hy; omega
   obtain ⟨g1,_⟩:=runS_facts (x:=z + 1) k2 fun y hy=>by have:=k1 y hy; omega
   refine ⟨fun k a1 a2=>?_,?_,fun y hy=>?_⟩
   ·by_cases e:k = z
    ·subst e; simp
    ·exact List.mem_cons_of_mem _ (h1 k (by omega) a2)
   ·intro hm
    rcases List.mem_cons.1 hm with e | hm
    ·omega
    ·exact h2 hm
   ·rcases List.mem_cons.1 hy with rfl | hy
    ·left; omega
    ·exact h3 y hy
  ·rename_i hz
   refine ⟨fun k a1 a2=>by omega,?_,fun y hy=>.inr hy⟩
   intro hm
   have h0:=hx z (by simp)
   rcases List.mem_cons.1 hm with e | hm
   ·omega
   ·have:=k1 _ hm; omega
theorem arr_S {S:Arr} {b:BxI} {n:Int} (hb:BxS S b) (h1:b.next≤n) (h2:(b.src,n) ∉ S):BxS ((b.src,n) :: S) (arrB b n):=by
 have hna:n ∉ b.ahead:=fun h=>h2 ((hb.mem n).1 h).1
 have hsort:=insI_sorted hb.asc hna
 have hge:∀ y ∈ insI n b.ahead,b.next≤y:=fun y hy=>by
  rcases mem_insI.1 hy with rfl | hy
  ·exact h1
  ·have:=((hb.mem y).1 hy).2; omega
 obtain ⟨k1,k2,k3,k4⟩:=runS_facts hsort hge
 obtain ⟨m1,m2,m3⟩:=runS_more hsort hge
 have hlo:=hb.lo
 refine ⟨?_,fun k a1 a2=>?_,fun hm=>?_,k2,fun k=>?_⟩
 ·show 1≤(runS (insI n b.ahead) b.next).1
  omega
 ·show (b.src,k) ∈ (b.src,n) :: S
  have a2:k < (runS (insI n b.ahead) b.next).1:=a2
  by_cases hk:k < b.next
  ·exact List.mem_cons_of_mem _ (hb.seen k a1 hk)
  ·rcases mem_insI.1 (m1 k (by omega) a2) with rfl | h
   ·simp
   ·exact List.mem_cons_of_mem _ ((hb.mem k).1 h).1
 ·have hm:(b.src,(runS (insI n b.ahead) b.next).1) ∈ (b.src,n) :: S:=hm
  rcases List.mem_cons.1 hm with e | h
  ·injection e with _ e
   exact m2 (by rw [e]; exact mem_insI.2 (.inl rfl))
  ·by_cases e:(runS (insI n b.ahead) b.next).1 = b.next
   ·rw [e] at h; exact hb.miss h
   ·exact m2 (mem_insI.2 (.inr ((hb.mem _).2 ⟨h,by omega⟩)))
 ·show k ∈ (runS (insI n b.ahead) b.next).2 ↔ (b.src,k) ∈ (b.src,n) :: S∧(runS (insI n b.ahead) b.next).1 < k
  constructor
  ·intro hk
   obtain ⟨e1,e2⟩:=k3 k hk
   refine ⟨?_,e2⟩
   rcases mem_insI.1 e1 with rfl | h
   ·simp
   ·exact List.mem_cons_of_mem _ ((hb.mem k).1 h).1
  ·rintro ⟨hk,hlt⟩
   have:k ∈ insI n b.ahead:=by
    rcases List.mem_cons.1 hk with e | h
    ·injection e with _ e
     exact mem_insI.2 (.inl e)
    ·exact mem_insI.2 (.inr ((hb.mem k).2 ⟨h,by omega⟩))
   rcases m3 k this with h | h
   ·omega
   ·exact h
theorem old_of_mem {r:List BxI} {s:List UInt8} (h:r.Pairwise fun a b=>a.src < b.src) {b:BxI} (hb:b ∈ r) (hs:b.src = s):oldB r s = true:=by
 cases ho:oldB r s with
 | true=>rfl
 | false =>
  rw [← List.take_append_drop (lowB r s) r] at hb
  rcases List.mem_append.1 hb with hb | hb
  ·exact absurd (low_take b hb) (by rw [hs]; exact List.lt_irrefl _)
  ·exact absurd (low_drop h ho b hb) (by rw [hs]; exact List.lt_irrefl _)
abbrev pqN (s:List UInt8) (n:Int):PkQ:=⟨s,false,0,s,n⟩
theorem good_pq {s:List UInt8} {n:Int} (hs:nameR s = true) (h1:1≤n) (h2:n≤maxT):badP (pqN s n) = false:=by
 simp only [badP,hs,Bool.or_eq_false_iff,bne_self_eq_false,Bool.not_true,decide_eq_false_iff_not,and_true,true_and]
 exact ⟨by omega,by omega⟩
theorem not_src {S:Arr} {r:List BxI} (h:Can S r) {s:List UInt8} {i:Nat} {b:BxI} (hlt:i < r.length) (hsrc:(r[i]).src = s) (hb:b ∈ r.take i∨b ∈ r.drop (i + 1)):b.src ≠ s:=fun e=>by
 have hp:=List.pairwise_iff_getElem.1 h.asc
 rcases hb with hb | hb
 ·obtain ⟨j,hj,rfl⟩:=List.mem_iff_getElem.1 hb
  rw [List.length_take] at hj
  rw [List.getElem_take] at e
  have:=hp j i (by omega) hlt (by omega)
  rw [e,hsrc] at this
  exact List.lt_irrefl _ this
 ·obtain ⟨j,hj,rfl⟩:=List.mem_iff_getElem.1 hb
  rw [List.length_drop] at hj
  rw [List.getElem_drop] at e
  have:=hp i (i + 1 + j) hlt (by omega) (by omega)
  rw [e,hsrc] at this
  exact List.lt_irrefl _ this
theorem mem_other {S:Arr} {s t:List UInt8} {n k:Int} (h:t ≠ s):(t,k) ∈ S ↔ (t,k) ∈ (s,n) :: S:=by
 simp only [List.mem_cons,Prod.mk.injEq]
 exact ⟨.inr,fun h'=>h'.resolve_left fun e=>h e.1⟩
theorem can_step {S:Arr} {r:List BxI} {s:List UInt8} {n:Int} (h:Can S r) (hs:nameR s = true) (h1:1≤n) (h2:n≤maxT) (hg:n≤(bOf r s).next + 64) (hr:r.length < 16∨oldB r s = true) :
  ∃ r' nx,recvP r (pqN s n) = .out r' (decide ((s,n) ∉ S)) s nx∧Can ((s,n) :: S) r'∧∃ b ∈ r',b.src = s∧b.next = nx:=by
 unfold recvP
 rw [if_neg (by rw [good_pq hs h1 h2]; simp)]
 have hfull:¬ (!oldB r s && decide (16≤r.length)) = true:=by
  rcases hr with h | h
  ·simp; intro _; omega
  ·simp [h]
 simp only []
 rw [if_neg hfull,if_neg (by omega)]
 cases ho:oldB r s with
 | true =>
  obtain ⟨hlt,hsrc⟩:=old_at ho
  have hbO:bOf r s = r[lowB r s]:=by
   unfold bOf
   rw [if_pos ho,List.getD_eq_getElem?_getD,List.getElem?_eq_getElem hlt]; rfl
  rw [hbO]
  obtain ⟨b,hb⟩:∃ b,r[lowB r s] = b:=⟨_,rfl⟩
  have hbm:b ∈ r:=hb ▸ List.getElem_mem hlt
  have hB:=h.box b hbm
  rw [hb] at hsrc ⊢
  subst hsrc
  split
  ·rename_i hc
   have hin:(b.src,n) ∈ S:=by
    rcases hc with hc | hc
    ·exact hB.seen n h1 hc
    ·exact ((hB.mem n).1 hc).1
   refine ⟨r,b.next,by simp [hin],h.congr fun p=>⟨fun hp=>List.mem_cons_of_mem _ hp,fun hp=>?_⟩,b,hbm,rfl,rfl⟩
   rcases List.mem_cons.1 hp with rfl | hp
   ·exact hin
   ·exact hp
  ·rename_i hc
   have hnin:(b.src,n) ∉ S:=fun hin=>hc (by
    by_cases e:n < b.next
    ·exact .inl e
    ·by_cases e2:n = b.next
     ·subst e2; exact absurd hin hB.miss
     ·exact .inr ((hB.mem n).2 ⟨hin,by omega⟩))
   have hA:=arr_S hB (by omega) hnin
   have hd:decide ((b.src,n) ∉ S) = true:=by simp [hnin]
   rw [hd,if_pos rfl]
   refine ⟨_,nextB b n,rfl,?_,arrB b n,by simp,rfl,rfl⟩
   have hmem:∀ c,c ∈ r.take (lowB r b.src) ++ [arrB b n] ++ r.drop (lowB r b.src + 1) ↔ (c ∈ r.take (lowB r b.src)∨c ∈ r.drop (lowB r b.src + 1))∨c = arrB b n:=fun c=>by
    simp only [List.mem_append,List.mem_singleton]; exact ⟨fun h=>by rcases h with (h | h) | h <;> simp [h],fun h=>by rcases h with (h | h) | h <;> simp [h]⟩
   refine ⟨pw_split (i:=lowB r b.src) h.asc (arrB b n) (fun c hc=>low_take c hc) (lowB r b.src + 1) (by omega) fun c hc=>?_,fun c hc=>?_,fun t=>?_⟩
   ·show b.src < c.src
    obtain ⟨j,hj,rfl⟩:=List.mem_iff_getElem.1 hc
    rw [List.length_drop] at hj
    rw [List.getElem_drop]
    have hp:=List.pairwise_iff_getElem.1 h.asc (lowB r b.src) (lowB r b.src + 1 + j) hlt (by omega) (by omega)
    rw [hb] at hp
    exact hp
   ·rcases (hmem c).1 hc with hc | rfl
    ·have hne:=not_src h hlt (by rw [hb]) hc
     have hcm:c ∈ r:=hc.elim List.mem_of_mem_take List.mem_of_mem_drop
     exact (h.box c hcm).congr fun k=>mem_other hne
    ·exact hA
   ·constructor
    ·rintro ⟨c,hc,rfl⟩
     rcases (hmem c).1 hc with hc | rfl
     ·obtain ⟨k,hk⟩:=(h.src c.src).1 ⟨c,hc.elim List.mem_of_mem_take List.mem_of_mem_drop,rfl⟩
      exact ⟨k,List.mem_cons_of_mem _ hk⟩
     ·exact ⟨n,by simp [arrB]⟩
    ·rintro ⟨k,hk⟩
     by_cases e:t = b.src
     ·exact ⟨arrB b n,(hmem _).2 (.inr rfl),e.symm⟩
     ·obtain ⟨c,hc,hct⟩:=(h.src t).2 ⟨k,(mem_other e).2 hk⟩
      refine ⟨c,(hmem c).2 (.inl ?_),hct⟩
      have hc':=hc
      rw [← List.take_append_drop (lowB r b.src) r] at hc'
      rcases List.mem_append.1 hc' with hc' | hc'
      ·exact .inl hc'
      ·rw [List.drop_eq_getElem_cons hlt,hb] at hc'
       rcases List.mem_cons.1 hc' with rfl | hc'
       ·exact absurd hct.symm e
       ·exact .inr hc'
 | false =>
  have hbO:bOf r s = ⟨s,1,[]⟩:=by unfold bOf; rw [if_neg (by rw [ho]; simp)]
  rw [hbO]
  have hno:∀ k,(s,k) ∉ S:=fun k hk=>by
   obtain ⟨b,hb,e⟩:=(h.src s).2 ⟨k,hk⟩
   rw [old_of_mem h.asc hb e] at ho; cases ho
  have hB:BxS S ⟨s,1,[]⟩:=⟨Int.le_refl _,fun k a1 a2=>by simp only at a2; omega,hno 1,List.Pairwise.nil,fun k=>by simp; intro hk; exact absurd hk (hno k)⟩
  rw [if_neg (by simp only [List.not_mem_nil,or_false]; omega)]
  have hA:=arr_S hB h1 (hno n)
  have hd:decide ((s,n) ∉ S) = true:=by simp [hno n]
  rw [hd,if_neg (by simp)]
  refine ⟨_,nextB ⟨s,1,[]⟩ n,rfl,?_,arrB ⟨s,1,[]⟩ n,by simp,rfl,rfl⟩
  have hmem:∀ c,c ∈ r.take (lowB r s) ++ [arrB ⟨s,1,[]⟩ n] ++ r.drop (lowB r s) ↔ c ∈ r∨c = arrB ⟨s,1,[]⟩ n:=fun c=>by
   conv=>rhs; rw [← List.take_append_drop (lowB r s) r]
   simp only [List.mem_append,List.mem_singleton]; exact ⟨fun h=>by rcases h with (h | h) | h <;> simp [h],fun h=>by rcases h with (h | h) | h <;> simp [h]⟩
  have hne:∀ c ∈ r,c.src ≠ s:=fun c hc e=>by rw [old_of_mem h.asc hc e] at ho; cases ho
  refine ⟨pw_split (i:=lowB r s) h.asc (arrB ⟨s,1,[]⟩ n) (fun c hc=>low_take c hc) (lowB r s) (Nat.le_refl _) fun c hc=>low_drop h.asc ho c hc,fun c hc=>?_,fun t=>?_⟩
  ·rcases (hmem c).1 hc with hc | rfl
   ·exact (h.box c hc).congr fun k=>mem_other (hne c hc)
   ·exact hA
  ·constructor
   ·rintro ⟨c,hc,rfl⟩
    rcases (hmem c).1 hc with hc | rfl
    ·obtain ⟨k,hk⟩:=(h.src c.src).1 ⟨c,hc,rfl⟩
     exact ⟨k,List.mem_cons_of_mem _ hk⟩
    ·exact ⟨n,by simp [arrB]⟩
   ·rintro ⟨k,hk⟩
    by_cases e:t = s
    ·exact ⟨arrB ⟨s,1,[]⟩ n,(hmem _).2 (.inr rfl),e.symm⟩
    ·obtain ⟨c,hc,hct⟩:=(h.src t).2 ⟨k,(mem_other e).2 hk⟩
     exact ⟨c,(hmem c).2 (.inl hc),hct⟩
theorem can_nil:Can [] []:=⟨List.Pairwise.nil,fun b hb=>(by cases hb),fun s=>by simp⟩
end Go.Abs
namespace Go.Abs
open Go.Proofs Go.RowKit
theorem agg63:aggA PI 63 = some true:=by kernel_rfl
theorem size63:sizeA PI 63 = some 40:=by kernel_rfl
theorem agg3i:aggA PI 3 = some false:=by kernel_rfl
theorem size3i:sizeA PI 3 = some 1:=by kernel_rfl
theorem size9i:sizeA PI 9 = some 1:=by kernel_rfl
theorem take_en {l:List EnI} {i:Nat} {e:EnI} (h:l[i]? = some e):takeAt PI 63 (ensL l) i 0 = some (enA e):=by
 simp only [takeAt,List.getElem?_map,h,Option.map_some,takeA,agg63,size63]
 rfl
theorem take_str9 {l:List (List UInt8)} {i:Nat} {s:List UInt8} (h:l[i]? = some s):takeAt PI 9 (l.map AV.str) i 0 = some (.str s):=by
 simp only [takeAt,List.getElem?_map,h,Option.map_some,takeA,agg9,size9i]
 rfl
theorem unE_inv (a:AV) (x:EnI) (h:unE a = some x):a = enA x:=by
 unfold unE at h
 split at h
 ·rename_i tick kind src seq k2 ref table key event sz es rest
  split at h
  ·rename_i hc
   obtain ⟨rfl,hl,ho⟩:=hc
   cases hu:unL unV es with
   | none=>rw [hu] at h; cases h
   | some fs =>
    rw [hu] at h
    injection h with h; subst h
    rw [unL_inv unV_inv hu]
    have:rest = List.replicate 29 .opq:=List.eq_replicate_iff.2 ⟨hl,fun b hb=>by
     have:=List.all_eq_true.1 ho b hb
     cases b <;> simp [isOpq] at this ⊢⟩
    rw [this]
    rfl
  ·cases h
 ·cases h
theorem unEs_inv {es:List AV} {l:List EnI} (h:unL unE es = some l):es = ensL l:=unL_inv unE_inv h
theorem unE_ok (e:EnI):unE (enA e) = some e:=by
 show (if (3 = 3∧(List.replicate 29 AV.opq).length = 29∧(List.replicate 29 AV.opq).all isOpq = true) then (unL unV (vasL e.f.fs)).map (fun fs=>(⟨e.tick,e.kind,⟨e.f.src,e.f.seq,e.f.kind,e.f.ref,e.f.table,e.f.key,e.f.event,fs⟩⟩:EnI)) else none) = some e
 rw [if_pos ⟨rfl,rfl,rfl⟩,show unL unV (vasL e.f.fs) = some e.f.fs from unL_map unV_ok e.f.fs]
 rfl
theorem unEs_ok (l:List EnI):unL unE (ensL l) = some l:=unL_map unE_ok l
theorem rel_no {tick:Int} {e:EnI} (h:¬ (e.kind = 1∧e.tick≤tick)):relB tick e = false:=by
 cases hr:relB tick e with
 | false=>rfl
 | true=>simp only [relB,Bool.and_eq_true,decide_eq_true_eq] at hr; exact absurd hr h
theorem rel_yes {tick:Int} {e:EnI} (h1:e.kind = 1) (h2:e.tick≤tick):relB tick e = true:=by simp [relB,h1,h2]
theorem met_skip {tick:Int} {l:List EnI} {i:Nat} {e:EnI} (h:l[i]? = some e) (hr:relB tick e = false):metL tick (l.take (i + 1)) = metL tick (l.take i):=by
 rw [metL_next h,hr]; simp
theorem met_add {tick:Int} {l:List EnI} {i:Nat} {e:EnI} (h:l[i]? = some e) (hr:relB tick e = true):metL tick (l.take (i + 1)) = metL tick (l.take i) ++ [e]:=by
 rw [metL_next h,hr]; simp
theorem keyIs_id {s:List UInt8} {n:Int} (h1:s.length≤140737488351232) (h2:-9223372036854775808≤n) (h3:n≤9223372036854775807):KeyIs PI 30 (idA s n):=by
 have hp:pairKey PI 30 = some .i64:=by kernel_rfl
 have hw:(Lit.int .i64 n).wf = true:=by
  simp only [Lit.wf,IntKind.min,IntKind.max,IntKind.signed,IntKind.bits,Bool.and_eq_true,decide_eq_true_eq,if_true]
  exact ⟨by omega,by omega⟩
 refine ⟨?_⟩
 unfold keyL
 simp only [hp]
 rw [if_pos ⟨trivial,hw,by unfold maxLen; omega⟩]; rfl
theorem keyIs_str {s:List UInt8} (h1:s.length≤140737488351232):KeyIs PI 9 (.str s):=by
 have hk:PI.underlying 9 = some .string:=by kernel_rfl
 refine ⟨?_⟩
 simp only [keyL,hk]
 rw [if_pos (by unfold maxLen; omega)]; rfl
theorem idsOk_at {l:List EnI} (h:idsOk l = true) {e:EnI} (he:e ∈ l):e.f.src.length≤140737488351232∧-9223372036854775808≤e.f.seq∧e.f.seq≤9223372036854775807:=by
 have:=List.all_eq_true.1 h e he
 simp only [Bool.and_eq_true,decide_eq_true_eq] at this
 exact ⟨this.1.1,this.1.2,this.2⟩
theorem p15 (m:Int) (l:List EnI) (tick:Int) (hl:l.length≤2000000) (hi:idsOk l = true):LaxOk PI (GI m) XMa (tbl []) (itbl [(41,s41),(40,s40)]) (a15 l tick) [] 15 [.sl 40 (ensL l) .no,.int .i64 tick] (.sl 2 (mksL (marksM (metL tick l))) .no,[]):=by
 constructor
 rw [w15]
 have hll:(ensL l).length = l.length:=List.length_map ..
 have hml:∀ n,(metL tick (l.take n)).length≤2000000:=fun n=>by
  have h1:=metL_len tick (l.take n)
  have h2:(l.take n).length≤l.length:=by rw [List.length_take]; omega
  omega
 have hmL:(metL tick l).length≤2000000:=by have:=metL_len tick l; omega
 refine ⟨⟨0,⟨by rw [hll]; rfl⟩,⟨rfl⟩,Nat.zero_le _,trivial⟩,fun i hil=>⟨fun hlt=>?_,fun hge=>?_⟩⟩
 ·have hlt:=of_decide_eq_true hlt
  have hil:i < l.length:=by omega
  have he:=List.getElem?_eq_getElem hil
  have hb:(0:Int)≤i∧(i:Int) < (ensL l).length:=⟨by omega,by rw [hll]; exact hlt⟩
  have ho:=idsOk_at hi (List.getElem_mem hil)
  refine ⟨hb,_,_,_,_,_,_,_,_,_,_,by rw [Int.toNat_natCast]; exact take_en he,fun h1=>⟨fun h2=>⟨trivial,keyIs_id ho.1 ho.2.1 ho.2.2,val_true,by omega,by have:=hml i; omega,trivial,keyIs_str ho.1,val_true,by omega,by have:=hml i; omega,?_⟩,fun h2=>?_⟩,fun h1=>?_⟩
  ·have hr:relB tick l[i] = true:=rel_yes (by simpa using h1) (by simpa using h2)
   refine ⟨i + 1,⟨by rw [wrapN (by omega)]⟩,⟨?_⟩,hil,by omega⟩
   rw [met_add he hr,idsM_snoc,srcM_snoc]
   simp only [List.length_append,List.length_cons,List.length_nil,Int.natCast_add]
   rfl
  ·exact ⟨i + 1,⟨by rw [wrapN (by omega)]⟩,⟨by rw [met_skip he (rel_no fun h=>by have:=of_decide_eq_false h2; exact this h.2)]⟩,hil,by omega⟩
  ·exact ⟨i + 1,⟨by rw [wrapN (by omega)]⟩,⟨by rw [met_skip he (rel_no fun h=>by simp [h.1] at h1)]⟩,hil,by omega⟩
 ·have hge:=of_decide_eq_false hge
  have hx:l.take i = l:=List.take_of_length_le (by omega)
  rw [hx]
  have hnl:(nmsM (metL tick l)).length≤2000000:=by rw [← nmsR_eq]; have:=nmsR_len (metL tick l); omega
  have hmk:∀ n,n≤(nmsM (metL tick l)).length→((marksM (metL tick l)).take n).length = n:=fun n hn=>by simp [marksM]; omega
  have hmk2:∀ n,n≤(nmsM (metL tick l)).length→(mksL ((marksM (metL tick l)).take n)).length = n:=fun n hn=>by simp [marksM]; omega
  refine ⟨trivial,⟨nms_nodup _,by omega⟩,⟨0,⟨by rw [List.length_map]; rfl⟩,⟨rfl⟩,Nat.zero_le _,trivial⟩,fun x hx=>⟨fun hlt=>?_,fun hge=>?_⟩⟩
  ·have hlt:=of_decide_eq_true hlt
   have hxl:x < (nmsM (metL tick l)).length:=by omega
   have hs:=List.getElem?_eq_getElem hxl
   have hsl:∀ s,s ∈ nmsM (metL tick l)→s.length≤140737488351232:=fun s hs=>by
    obtain ⟨e,he,rfl⟩:=mem_nmsM.1 hs
    exact (idsOk_at hi (List.mem_filter.1 he).1).1
   refine ⟨⟨by omega,by rw [List.length_map]; exact hlt⟩,_,by rw [Int.toNat_natCast]; exact take_str9 hs,⟨⟨x,0,_⟩,⟨rfl⟩,⟨rfl⟩,⟨hs,Nat.zero_le _,fun k hk=>absurd hk (Nat.not_lt_zero _),rfl⟩,rfl⟩,fun z hz hzx=>?_⟩
   obtain ⟨i,j,s⟩:=z
   simp only at hz hzx ⊢
   obtain ⟨hzs,hzj,hzh,hzn⟩:=hz
   have hix:x = i:=by
    have h:(x:Int) = i:=by simpa using hzx
    omega
   subst hix
   rw [hs] at hzs
   injection hzs with hzs
   have hsm:s ∈ nmsM (metL tick l):=hzs ▸ List.getElem_mem hxl
   have hjl:j≤2000000:=by omega
   refine ⟨keyIs_id (hsl s hsm) (by omega) (by omega),hasId (metL tick l) s ((j:Int) + 1),⟨by rw [look_ids]; cases hasId (metL tick l) s ((j:Int) + 1) <;> rfl⟩,fun hb=>?_,fun hb=>?_⟩
   ·have hj2:j + 1≤(metL tick l).length:=pigeon (s:=s) fun k hk=>by
     rcases Nat.lt_or_eq_of_le (Nat.lt_succ_iff.1 hk) with h | h
     ·exact hzh k h
     ·subst h; exact hb
    refine ⟨⟨x,j + 1,s⟩,⟨rfl⟩,⟨?_⟩,⟨by rw [hs,hzs],hj2,fun k hk=>?_,?_⟩,rfl,by show (metL tick l).length - (j + 1) < (metL tick l).length - j; omega⟩
    ·rw [show (j:Int) + 1 + 1 = ((j + 1:Nat):Int) + 1 by omega,wrapN (by omega)]
     rfl
    ·show hasId (metL tick l) s ((k:Int) + 1) = true
     rcases Nat.lt_or_eq_of_le (Nat.lt_succ_iff.1 hk) with h | h
     ·exact hzh k h
     ·subst h; exact hb
    ·show nextF (hasId (metL tick l) s) ((metL tick l).length - (j + 1)) (((j + 1:Nat):Int) + 1) = nextM (metL tick l) s
     rw [← hzn,show (metL tick l).length - j = ((metL tick l).length - (j + 1)) + 1 by omega,nextF_go hb]
     rfl
   ·have hnx:nextM (metL tick l) s = (j:Int) + 1:=by rw [← hzn]; exact nextF_stop hb
    have hlen:(marksM (metL tick l)).length = (nmsM (metL tick l)).length:=by simp [marksM]
    have hxm:x < (marksM (metL tick l)).length:=by omega
    have hmx:(marksM (metL tick l))[x] = ⟨s,(j:Int) + 1⟩:=by
     simp only [marksM,List.getElem_map,mkOf]
     rw [hzs,hnx]
    refine ⟨.inl trivial,by rw [hmk2 _ hx]; omega,by rw [hmk _ hx,hmk2 _ hx],x + 1,⟨?_⟩,⟨?_⟩,hxl,by omega⟩
    ·rw [wrapN (by omega),List.take_succ_eq_append_getElem hxm,hmx]
     simp only [List.map_append,List.map_cons,List.map_nil]
     rfl
    ·rw [hmk2 _ hx,hmk _ hxl]
  ·have hge:=of_decide_eq_false hge
   have hxl:x = (nmsM (metL tick l)).length:=by omega
   have:(marksM (metL tick l)).take x = marksM (metL tick l):=List.take_of_length_le (by simp [marksM]; omega)
   rw [this]
   exact ⟨⟨rfl,rfl,.inl rfl⟩,rfl,rfl⟩
theorem o15 (m:Int):SpecOk PI (GI m) 15 s15:=lax_of (X:=XMa) (m:=[]) mixedI tbl_nil (itbl_cons (o41 m) (itbl_cons (o40 m) itbl_nil)) fun args r h=>by
 unfold s15 at h
 split at h
 case h_2=>cases h
 split at h
 case isFalse=>cases h
 rename_i hc
 obtain ⟨rfl,hl⟩:=hc
 split at h
 case h_2=>cases h
 rename_i l hu
 obtain rfl:=unEs_inv hu
 split at h
 case isFalse=>cases h
 rename_i hi
 injection h with h; subst h
 rw [List.length_map] at hl
 exact ⟨_,p15 m l _ hl hi⟩
theorem SpecOk.wkG {P:Program} {G:Glob} {f:FuncId} {s:Spec} (hs:SpecOk P G f s) {g:AV→AV} (hr:∀ {E:Env} {w:World} {a:AV} {v:Value},Rep E w a v→Rep E w (g a) v) (hc:∀ {a:AV},a.closed1 = true→(g a).closed1 = true):SpecOk P G f fun args=>s (args.map g):=by
 intro f' args r lv hrr E w vs hI hG hn hv hcl
 refine hs f' (args.map g) r lv hrr E w vs hI hG (by simpa using hn) (fun i c v hi hv'=>?_) fun c hc'=>?_
 ·rw [List.getElem?_map] at hi
  cases ha:args[i]? with
  | none=>rw [ha] at hi; cases hi
  | some a =>
   rw [ha] at hi
   injection hi with hi; subst hi
   exact hr (hv i a v ha hv')
 ·obtain ⟨a,ha,rfl⟩:=List.mem_map.1 hc'
  exact hc (hcl a ha)
def wkN:AV→AV
 | .sl sz es _=>.sl sz es .no
 | a=>a
theorem wkN_rep {E:Env} {w:World} {a:AV} {v:Value} (h:Rep E w a v):Rep E w (wkN a) v:=by
 unfold wkN
 split
 ·cases h with
  | sl _ _ _ A cap u hcap hmax hA hsz hcl ho hr h1=>exact .sl _ _ .no A cap u hcap hmax hA hsz hcl trivial hr h1
 ·exact h
theorem wkN_closed {a:AV} (h:a.closed1 = true):(wkN a).closed1 = true:=by
 unfold wkN
 split
 ·rfl
 ·exact h
def wkCs:List AV→List AV
 | _ :: a :: b :: c :: d :: e :: f :: g :: h :: i :: j :: l=>.opq :: a :: b :: c :: d :: e :: f :: g :: h :: i :: wk0 j :: l.map fun _=>.opq
 | l=>l
def wkEn:AV→AV
 | .agg cs=>.agg (wkCs cs)
 | a=>a
def wkEs:AV→AV
 | .sl sz es _=>.sl sz (es.map wkEn) .no
 | a=>a
theorem wkCs_len (cs:List AV):(wkCs cs).length = cs.length:=by
 unfold wkCs
 split
 ·simp
 ·rfl
theorem wkCs_at {cs:List AV} {i:Nat} {c:AV} (h:(wkCs cs)[i]? = some c):∃ d,cs[i]? = some d∧(c = d∨c = .opq∨c = wk0 d):=by
 unfold wkCs at h
 split at h
 ·match i,h with
  | 0,h=>simp at h; subst h; exact ⟨_,rfl,.inr (.inl rfl)⟩
  | 1,h=>simp at h; subst h; exact ⟨_,rfl,.inl rfl⟩
  | 2,h=>simp at h; subst h; exact ⟨_,rfl,.inl rfl⟩
  | 3,h=>simp at h; subst h; exact ⟨_,rfl,.inl rfl⟩
  | 4,h=>simp at h; subst h; exact ⟨_,rfl,.inl rfl⟩
  | 5,h=>simp at h; subst h; exact ⟨_,rfl,.inl rfl⟩
  | 6,h=>simp at h; subst h; exact ⟨_,rfl,.inl rfl⟩
  | 7,h=>simp at h; subst h; exact ⟨_,rfl,.inl rfl⟩
  | 8,h=>simp at h; subst h; exact ⟨_,rfl,.inl rfl⟩
  | 9,h=>simp at h; subst h; exact ⟨_,rfl,.inl rfl⟩
  | 10,h=>simp at h; subst h; exact ⟨_,rfl,.inr (.inr rfl)⟩
  | i + 11,h =>
   simp only [List.getElem?_cons_succ,List.getElem?_map,Option.map_eq_some_iff] at h
   obtain ⟨d,h1,h2⟩:=h
   exact ⟨d,by simpa using h1,.inr (.inl h2.symm)⟩
 ·exact ⟨c,h,.inl rfl⟩
theorem wkEn_cells {a:AV} {j:Nat} {c:AV} (h:(wkEn a).cells[j]? = some c):∃ d,a.cells[j]? = some d∧(c = d∨c = .opq∨c = wk0 d):=by
 unfold wkEn at h
 split at h
 ·exact wkCs_at h
 ·exact ⟨c,h,.inl rfl⟩
theorem wkEn_len (a:AV):(wkEn a).cells.length = a.cells.length:=by
 unfold wkEn
 split
 ·exact wkCs_len _
 ·rfl
theorem wkEn_closed {a:AV} (h:a.closed1 = true):(wkEn a).closed1 = true:=by
 unfold wkEn
 split
 ·rename_i cs
  simp only [AV.closed1,List.all_eq_true] at h ⊢
  intro c hc
  obtain ⟨i,hi⟩:=List.mem_iff_getElem?.1 hc
  obtain ⟨d,h1,h2⟩:=wkCs_at hi
  have hd:=h d (List.mem_of_getElem? h1)
  rcases h2 with rfl | rfl | rfl
  ·exact hd
  ·rfl
  ·exact wk0_closed hd
 ·exact h
theorem wkEs_rep {E:Env} {w:World} {a:AV} {v:Value} (h:Rep E w a v):Rep E w (wkEs a) v:=by
 unfold wkEs
 split
 ·cases h with
  | sl sz' es' _ A cap u hcap hmax hA hsz hcl ho hr h1 =>
   rename_i sz es o
   have hel:∀ (i:Nat) (e:AV),(es.map wkEn)[i]? = some e→∃ e0,es[i]? = some e0∧e = wkEn e0:=fun i e he=>by
    rw [List.getElem?_map] at he
    cases h0:es[i]? with
    | none=>rw [h0] at he; cases he
    | some e0=>rw [h0] at he; injection he with he; exact ⟨e0,rfl,he.symm⟩
   have hlen:(es.map wkEn).length = es.length:=List.length_map ..
   rw [← hlen]
   refine .sl sz _ .no A cap u (by rw [hlen]; exact hcap) hmax ?_ ?_ ?_ trivial ?_ h1
   ·rcases hA with rfl | ⟨b,off,rfl,hA⟩
    ·exact .inl rfl
    ·refine .inr ⟨b,off,rfl,fun i e j c hi hj=>?_⟩
     obtain ⟨e0,h0,rfl⟩:=hel i e hi
     obtain ⟨d,h2,_⟩:=wkEn_cells hj
     exact hA i e0 j d h0 h2
   ·intro e he
    obtain ⟨e0,h0,rfl⟩:=List.mem_map.1 he
    rw [wkEn_len]; exact hsz e0 h0
   ·intro e he
    obtain ⟨e0,h0,rfl⟩:=List.mem_map.1 he
    exact wkEn_closed (hcl e0 h0)
   ·intro i e j c hi hj
    obtain ⟨e0,h0,rfl⟩:=hel i e hi
    obtain ⟨d,h2,h3⟩:=wkEn_cells hj
    have hd:=hr i e0 j d h0 h2
    rcases h3 with rfl | rfl | rfl
    ·exact hd
    ·exact .opq _ (h1 i j)
    ·exact wk0_rep hd
 ·exact h
theorem wkEs_closed {a:AV} (h:a.closed1 = true):(wkEs a).closed1 = true:=by
 unfold wkEs
 split
 ·rfl
 ·exact h
def s15x:Spec:=fun args=>s15 (args.map wkEs)
theorem o15x (m:Int):SpecOk PI (GI m) 15 s15x:=(o15 m).wkG (g:=wkEs) wkEs_rep wkEs_closed
def s14x:Spec:=fun args=>s14 (args.map wkN)
theorem o14x (m:Int):SpecOk PI (GI m) 14 s14x:=(o14 m).wkG (g:=wkN) wkN_rep wkN_closed
def s21x:Spec:=fun args=>s21 (args.map wk1)
theorem o21x (m:Int):SpecOk PI (GI m) 21 s21x:=(o21 m).wk
def s23x:Spec:=fun args=>s23 (args.map wk1)
theorem o23x (m:Int):SpecOk PI (GI m) 23 s23x:=(o23 m).wk
noncomputable abbrev tEx:List (FuncId × Spec):=[(10,s10w),(12,s12w),(14,s14x),(15,s15x),(20,s20),(21,s21x),(22,s22),(23,s23x),(24,s24)]
theorem tEx_ok (m:Int):CalleeOk PI (GI m) (tbl tEx):=tbl_cons (o10w m) (tbl_cons (o12w m) (tbl_cons (o14x m) (tbl_cons (o15x m) (tbl_cons (o20 m) (tbl_cons (o21x m) (tbl_cons (o22 m) (tbl_cons (o23x m) (tbl_cons (o24 m) tbl_nil))))))))
theorem run7 (m:Int):(evs PI (GI m) (tbl tEx) (fun _=>[]) 9).1 7 [] = some (.bool true,[]):=by kernel_rfl
theorem o7 (m:Int):SpecOk PI (GI m) 7 s7:=spec_run mixedI (tEx_ok m) fun args r h=>by
 unfold s7 at h
 split at h
 case h_2=>cases h
 injection h with h; subst h
 exact ⟨9,run7 m⟩
end Go.Abs
namespace Go.Abs
open Go.Proofs
def a4 (l:List EnI) (tick:Int):Anns:=⟨fun k=>if k = 4 then some { α:=Nat,slots:=[0,1,5],nb:=0,vals:=fun n=>[.sl 40 (ensL l) .no,.int .i64 tick,.int .i64 n],sS:=fun _=>⟨[],[]⟩,I:=fun n=>n≤l.length,μ:=fun n=>l.length - n } else none,nA⟩
abbrev t4:List (FuncId × Spec):=[(7,s7),(9,s9),(15,s15),(16,s15),(14,s14)]
theorem w4 (m:Int) (l:List EnI) (tick:Int):(pureW PI (GI m) XMa (tbl t4) (itbl []) (a4 l tick) [] 4 [.sl 40 (ensL l) .no,.int .i64 tick] (.bool true,[])) =
(∃ (b:Bool),
  CallIs (some (AV.bool true,[])) (AV.bool b) [] ∧
    (b = true →
        (∃ (y:Nat),
 ValsAre [AV.sl ((40:Nat)) (ensL l) Own.no,AV.int IntKind.i64 tick,AV.int IntKind.i64 (0:Int)]
 [AV.sl ((40:Nat)) (ensL l) Own.no,AV.int IntKind.i64 tick,AV.int IntKind.i64 (↑y:Int)] ∧
 StIs { boxes:=[],live:=[] } { boxes:=[],live:=[] }∧y≤l.length∧True) ∧
 ∀ (x:Nat),
 x≤l.length →
 (decide ((↑x:Int) < (↑(ensL l).length:Int)) = true →
 (decide ((↑x:Int) < (61:Int)) = true →
 ((0:Int)≤(↑x:Int)∧(↑x:Int) < (↑(ensL l).length:Int)) ∧
 ∃ (s:List UInt8),
 ∃ (n:Int),
 ∃ (n_1:Int),
 ∃ (n_2:Int),
 ∃ (s_1:List UInt8),
 ∃ (s_2:List UInt8),
 ∃ (n_3:Int),
 ∃ (es:List AV),
 takeAt PI ((33:Nat)) (ensL l) (↑x:Int).toNat ((3:Nat)) =
 some
 (AV.agg
 [AV.str s,AV.int IntKind.i64 n,AV.int IntKind.i64 n_1,AV.int IntKind.i64 n_2,AV.str s_1,AV.str s_2,
 AV.int IntKind.i64 n_3,AV.sl ((3:Nat)) es Own.no]) ∧
 ∃ (b:Bool),
 CallIs
 (tbl [((7:Nat),s7),((9:Nat),s9),((15:Nat),s15),((16:Nat),s15),((14:Nat),s14)] ((9:Nat))
 [AV.agg
 [AV.str s,AV.int IntKind.i64 n,AV.int IntKind.i64 n_1,AV.int IntKind.i64 n_2,AV.str s_1,AV.str s_2,
 AV.int IntKind.i64 n_3,AV.sl ((3:Nat)) es Own.no]])
 (AV.bool b) [] ∧
 (b = true →
 ∃ (y:Nat),
 ValsAre
 [AV.sl ((40:Nat)) (ensL l) Own.no,AV.int IntKind.i64 tick,
 AV.int IntKind.i64 (IntKind.i64.wrap ((↑x:Int) + (1:Int)))]
 [AV.sl ((40:Nat)) (ensL l) Own.no,AV.int IntKind.i64 tick,AV.int IntKind.i64 (↑y:Int)] ∧
 StIs { boxes:=[],live:=[] } { boxes:=[],live:=[] } ∧
 y≤l.length∧l.length - y < l.length - x) ∧
 (b = false→RetIs (AV.bool true) [] (AV.bool true,[]))) ∧
 (decide ((↑x:Int) < (61:Int)) = false →
 (decide ((↑(ensL l).length:Int) > (60:Int)) = true→RetIs (AV.bool true) [] (AV.bool true,[])) ∧
 (decide ((↑(ensL l).length:Int) > (60:Int)) = false →
 ∃ (es:List AV),
 CallIs
 (tbl [((7:Nat),s7),((9:Nat),s9),((15:Nat),s15),((16:Nat),s15),((14:Nat),s14)] ((15:Nat))
 [AV.sl ((40:Nat)) (ensL l) Own.no,AV.int IntKind.i64 tick])
 (AV.sl ((2:Nat)) es Own.no) [] ∧
 ∃ (es_1:List AV),
 CallIs
 (tbl [((7:Nat),s7),((9:Nat),s9),((15:Nat),s15),((16:Nat),s15),((14:Nat),s14)] ((16:Nat))
 [AV.sl ((40:Nat)) (ensL l) Own.no,AV.int IntKind.i64 tick])
 (AV.sl ((2:Nat)) es_1 Own.no) [] ∧
 ∃ (b:Bool),
 CallIs
 (tbl [((7:Nat),s7),((9:Nat),s9),((15:Nat),s15),((16:Nat),s15),((14:Nat),s14)] ((14:Nat))
 [AV.sl ((2:Nat)) es Own.no,AV.sl ((2:Nat)) es_1 Own.no])
 (AV.bool b) [] ∧
 (b = true→RetIs (AV.bool true) [] (AV.bool true,[]))∧(b = false→RetIs (AV.bool false) [] (AV.bool true,[]))))) ∧
 (decide ((↑x:Int) < (↑(ensL l).length:Int)) = false →
 (decide ((↑(ensL l).length:Int) > (60:Int)) = true→RetIs (AV.bool true) [] (AV.bool true,[])) ∧
 (decide ((↑(ensL l).length:Int) > (60:Int)) = false →
 ∃ (es:List AV),
 CallIs
 (tbl [((7:Nat),s7),((9:Nat),s9),((15:Nat),s15),((16:Nat),s15),((14:Nat),s14)] ((15:Nat))
 [AV.sl ((40:Nat)) (ensL l) Own.no,AV.int IntKind.i64 tick])
 (AV.sl ((2:Nat)) es Own.no) [] ∧
 ∃ (es_1:List AV),
 CallIs
 (tbl [((7:Nat),s7),((9:Nat),s9),((15:Nat),s15),((16:Nat),s15),((14:Nat),s14)] ((16:Nat))
 [AV.sl ((40:Nat)) (ensL l) Own.no,AV.int IntKind.i64 tick])
 (AV.sl ((2:Nat)) es_1 Own.no) [] ∧
 ∃ (b:Bool),
 CallIs
 (tbl [((7:Nat),s7),((9:Nat),s9),((15:Nat),s15),((16:Nat),s15),((14:Nat),s14)] ((14:Nat))
 [AV.sl ((2:Nat)) es Own.no,AV.sl ((2:Nat)) es_1 Own.no])
 (AV.bool b) [] ∧
 (b = true→RetIs (AV.bool true) [] (AV.bool true,[]))∧(b = false→RetIs (AV.bool false) [] (AV.bool true,[]))))) ∧
      (b = false→RetIs (AV.bool false) [] (AV.bool true,[]))):=by kernel_rfl
end Go.Abs
namespace Go.Abs
open Go.Proofs Go.RowKit
def enOk (e:EnI):Prop:=e.f.src.length≤140737488351232∧e.f.table.length≤140737488351232∧e.f.key.length≤140737488351232∧e.f.fs.length≤140737488351232∧-9223372036854775808≤e.f.seq∧e.f.seq≤9223372036854775807
theorem take_enf {l:List EnI} {i:Nat} {e:EnI} (h:l[i]? = some e):takeAt PI 33 (ensL l) i 3 = some (fcA e.f):=by
 simp only [takeAt,List.getElem?_map,h,Option.map_some,takeA,agg33,size33]
 rfl
theorem c9m {f:FcI} (h:f.src.length≤140737488351232∧f.table.length≤140737488351232∧f.key.length≤140737488351232∧f.fs.length≤140737488351232):tbl t4 9 [fcA f] = some (.bool (smallB f),[]):=by
 rw [tbl_miss (by decide),tbl_hit]
 unfold fcA s9
 simp only [if_true]
 rw [show unL unV (vasL f.fs) = some f.fs from unL_map unV_ok f.fs]
 simp only
 rw [if_pos h]
theorem c15m {l:List EnI} {tick:Int} (hl:l.length≤60) (hi:idsOk l = true):s15 [.sl 40 (ensL l) .no,.int .i64 tick] = some (.sl 2 (mksL (marksM (metL tick l))) .no,[]):=by
 simp only [s15,unEs_ok]
 rw [if_pos ⟨trivial,by rw [List.length_map]; omega⟩,if_pos hi]
theorem p4 (m:Int) (l:List EnI) (tick:Int) (he:∀ e ∈ l,enOk e):PureOk PI (GI m) XMa (tbl t4) (itbl []) (a4 l tick) [] 4 [.sl 40 (ensL l) .no,.int .i64 tick] (.bool true,[]):=by
 constructor
 rw [w4]
 have hll:(ensL l).length = l.length:=List.length_map ..
 rw [hll]
 have hi:idsOk l = true:=List.all_eq_true.2 fun e h=>by
  obtain ⟨h1,_,_,_,h2,h3⟩:=he e h
  simp [h1,h2,h3]
 have fin:(decide ((l.length:Int) > 60) = true→RetIs (.bool true) [] (.bool true,[]))∧(decide ((l.length:Int) > 60) = false→∃ es:List AV,CallIs (tbl t4 15 [.sl 40 (ensL l) .no,.int .i64 tick]) (.sl 2 es .no) []∧∃ es_1:List AV,CallIs (tbl t4 16 [.sl 40 (ensL l) .no,.int .i64 tick]) (.sl 2 es_1 .no) []∧∃ b:Bool,CallIs (tbl t4 14 [.sl 2 es .no,.sl 2 es_1 .no]) (.bool b) []∧(b = true→RetIs (.bool true) [] (.bool true,[]))∧(b = false→RetIs (.bool false) [] (.bool true,[]))):=by
  refine ⟨fun _=>⟨rfl⟩,fun h60=>?_⟩
  have h60:=of_decide_eq_false h60
  have hl:l.length≤60:=by omega
  have hk:(marksM (metL tick l)).length≤2000000:=by
   have h1:=nmsR_len (metL tick l)
   have h2:=metL_len tick l
   simp only [marksM,List.length_map]
   rw [← nmsR_eq]; omega
  refine ⟨_,⟨by rw [tbl_miss (by decide),tbl_miss (by decide),tbl_hit]; exact c15m hl hi⟩,_,⟨by rw [tbl_miss (by decide),tbl_miss (by decide),tbl_miss (by decide),tbl_hit]; exact c15m hl hi⟩,true,⟨?_⟩,fun _=>⟨rfl⟩,fun h=>(by cases h)⟩
  rw [tbl_miss (by decide),tbl_miss (by decide),tbl_miss (by decide),tbl_miss (by decide),tbl_hit]
  simp only [s14,and_self,if_true]
  rw [show unL unM (mksL (marksM (metL tick l))) = some (marksM (metL tick l)) from unL_map (f:=unM) (g:=mkA) (fun x=>rfl) _]
  simp only
  rw [if_pos hk]; simp
 refine ⟨true,⟨rfl⟩,fun _=>⟨⟨0,⟨rfl⟩,⟨rfl⟩,Nat.zero_le _,trivial⟩,fun x hx=>⟨fun hlt=>⟨fun h61=>?_,fun _=>fin⟩,fun _=>fin⟩⟩,fun h=>(by cases h)⟩
 have h61:=of_decide_eq_true h61
 have hlt:=of_decide_eq_true hlt
 have hxl:x < l.length:=by omega
 have hg:=List.getElem?_eq_getElem hxl
 obtain ⟨h1,h2,h3,h4,_⟩:=he _ (List.getElem_mem hxl)
 exact ⟨⟨by omega,hlt⟩,_,_,_,_,_,_,_,_,by rw [Int.toNat_natCast]; exact take_enf hg,_,⟨c9m ⟨h1,h2,h3,h4⟩⟩,fun _=>⟨x + 1,⟨by rw [wrapN (by omega)]⟩,⟨rfl⟩,hxl,by omega⟩,fun _=>⟨rfl⟩⟩
/-! IngestReceives -/
def unQ:AV→Option PkI
 | .agg [.str src,.bool ack,.int .i64 next,.str fsrc,.int .i64 seq,.int .i64 kind,.int .i64 ref,.str table,.str key,.int .i64 event,.sl sz es .no]=>if sz = 3 then (unL unV es).map fun fs=>⟨src,ack,next,⟨fsrc,seq,kind,ref,table,key,event,fs⟩⟩ else none
 | _=>none
theorem unQ_inv (a:AV) (x:PkI) (h:unQ a = some x):a = pkA x:=by
 unfold unQ at h
 split at h
 ·rename_i sz es
  split at h
  ·rename_i hz
   subst hz
   cases hu:unL unV es with
   | none=>rw [hu] at h; cases h
   | some fs =>
    rw [hu] at h
    injection h with h; subst h
    rw [unL_inv unV_inv hu]
    rfl
  ·cases h
 ·cases h
theorem unQ_ok (p:PkI):unQ (pkA p) = some p:=by
 unfold pkA unQ
 simp only [if_true]
 rw [show unL unV (vasL p.f.fs) = some p.f.fs from unL_map unV_ok p.f.fs]
 rfl
abbrev appN:List UInt8:=[97,112,112]
abbrev webN:List UInt8:=[119,101,98]
def zF (s:List UInt8) (n:Int):FcI:=⟨s,n,0,0,[],[],0,[]⟩
def sentP (p:List UInt8 × Int):PkI:=⟨p.1,false,0,zF p.1 p.2⟩
def ackP2 (s:List UInt8) (n:Int):PkI:=⟨s,true,n,zF [] 0⟩
def s24w:Spec:=fun args=>match args with
 | [.str s,.int .i64 n]=>some (pkA (sentP (s,n)),[])
 | _=>none
theorem o24w (m:Int):SpecOk PI (GI m) 24 s24w:=(o24 m).lax fun args r' h=>by
 unfold s24w at h
 split at h
 case h_2=>cases h
 rename_i s n
 injection h with h; subst h
 refine ⟨sentA s n,rfl,?_,rfl⟩
 simp [sentA,pkA,sentP,zF,Lax2,Lax1,Lax0,all2]
def numN (x:Int):Int:=1 + (x.tmod 60 + 60).tmod 60
def numP (l:List Int):Arr:=l.map fun x=>(appN,numN x)
abbrev seL (l:Arr):List PkI:=l.map sentP
def s17:Spec:=fun args=>match args with
 | [.sl sz es .no]=>if sz = 1∧es.length≤2000000 then (match unL unIn es with
  | some l=>some (.sl 11 (pksL (seL (numP l))) (.tok 0),[(l.length,35)])
  | none=>none) else none
 | _=>none
def rStep (r:List BxI) (p:List UInt8 × Int):List BxI:=match recvP r (pqN p.1 p.2) with
 | .out r' _ _ _=>r'
 | .err _=>r
def allS (ps:Arr):List BxI:=ps.foldl rStep []
def cntS (ps:Arr):Nat:=(uniq id ps).length
def unS (a:AV):Option (List UInt8 × Int):=match unQ a with
 | some p=>if p = sentP (p.src,p.f.seq) then some (p.src,p.f.seq) else none
 | none=>none
def okPs (ps:Arr):Bool:=decide (ps.length≤200) && ps.all fun p=>(decide (p.1 = appN) || decide (p.1 = webN)) && decide (1≤p.2) && decide (p.2≤60)
def s18:Spec:=fun args=>match args with
 | [.agg [.sl sz0 [] .no],.sl sz es .no]=>if sz0 = 3∧(sz = 11∨(es = []∧sz = 3)) then (match unL unS es with
  | some ps=>if okPs ps = true then some (.tup [rcA (allS ps),.int .i64 (cntS ps),.bool true],[]) else none
  | none=>none) else none
 | _=>none
def s61:Spec:=fun args=>match args with
 | [.agg [.str [],.int .i64 a,.int .i64 b,.int .i64 c,.str [],.str [],.int .i64 d,.sl sz [] .no],.agg [.str [],.int .i64 a',.int .i64 b',.int .i64 c',.str [],.str [],.int .i64 d',.sl sz2 [] .nil]] =>
  if a = 0∧b = 0∧c = 0∧d = 0∧a' = 0∧b' = 0∧c' = 0∧d' = 0∧sz = 3∧sz2 = 0 then some (.bool true,[]) else none
 | _=>none
def s43:Spec:=fun args=>match args with
  | [.agg [.str s,.bool k,.int .i64 nx,.str fs,.int .i64 q,.int .i64 b,.int .i64 c,.str [],.str [],.int .i64 d,.sl sz [] .no]] =>
    if sz = 3∧s.length≤2000000∧b = 0∧c = 0∧d = 0 then
      (if k = true then (if fs = []∧q = 0 then some (.bool (nameR s && (decide (1≤nx) && decide (nx≤1099511627777))),[]) else none)
       else some (.bool (nameR s && (decide (nx = 0) && decide (fs = s))),[]))
    else none
  | _=>none
def fmP (p:PkI):Bool:=if p.ack then nameR p.src && (decide (1≤p.next) && decide (p.next≤1099511627777)) else nameR p.src && (decide (p.next = 0) && decide (p.f.src = p.src))
def smP (p:PkI):Bool:=decide (p.src.length≤2000000) && (if p.ack then decide (p.f = zF [] 0) else decide (p.f = zF p.f.src p.f.seq))
def s19:Spec:=fun args=>match args with
 | [.agg [.sl sz es .no]]=>if sz = 11∧es.length≤2000000 then (match unL unQ es with
  | some ps=>if ps.all smP = true then some (.int .i64 (if ps.length≤1024∧ps.all fmP = true then 0 else 1),[]) else none
  | none=>none) else none
 | _=>none
abbrev shP:Sh × Option TypeId:=(.val (.agg [.str,.bool,.int .i64,.str,.int .i64,.int .i64,.int .i64,.str,.str,.int .i64,.sl 3 .no]),none)
def XO:Shapes:=fun f=>match f with
 | 7 | 13 | 27 | 43 | 61=>some shB
 | 10=>some shRc
 | 17=>some (.val (.one (.sl 11 (.tok 0))),some 35)
 | 18=>some (.tup [.agg [.sl 3 .no],.one (.int .i64),.one .bool],none)
 | 19=>some shI
 | 24=>some shP
 | _=>none
def a17 (l:List Int):Anns:=⟨fun k=>if k = 3 then some { α:=Nat,slots:=[0,3,4],nb:=0,vals:=fun n=>[.sl 1 (intsA l) .no,.sl 11 (pksL (seL (numP (l.take n)))) (.tok 0),.int .i64 n],sS:=fun n=>⟨[],[((numP (l.take n)).length,35)]⟩,I:=fun n=>n≤l.length,μ:=fun n=>l.length - n,mint:=[(3,35)] } else none,nA⟩
def a18 (ps:Arr):Anns:=⟨fun k=>if k = 3 then some { α:=Nat,slots:=[1,2,4,7,8],nb:=2,vals:=fun n=>[.sl 11 (pksL (seL ps)) .no,.ptr 0 0,.ptr 1 0,.int .i64 (cntS (ps.take n)),.int .i64 n],sS:=fun n=>⟨[some [.sl 3 (bxsL (allS (ps.take n))) .no],some [.sl 0 [] .nil]],[]⟩,I:=fun n=>n≤ps.length,μ:=fun n=>ps.length - n } else none,nA⟩
def a18e:Anns:=⟨fun k=>if k = 3 then some { α:=Unit,slots:=[1,2,4,7,8],nb:=2,vals:=fun _=>[.sl 3 [] .no,.ptr 0 0,.ptr 1 0,.int .i64 0,.int .i64 0],sS:=fun _=>⟨[some [.sl 3 [] .no],some [.sl 0 [] .nil]],[]⟩,I:=fun _=>True,μ:=fun _=>0 } else none,nA⟩
def a19 (ps:List PkI):Anns:=⟨fun k=>if k = 4 then some { α:=Nat,slots:=[1,10,11,12],nb:=1,vals:=fun n=>[.ptr 0 0,.sl 11 (pksL ps) .no,.int .i64 ps.length,.int .i64 n],sS:=fun _=>⟨[some [.sl 11 (pksL ps) .no]],[]⟩,I:=fun n=>n≤ps.length∧(ps.take n).all fmP = true,μ:=fun n=>ps.length - n } else none,nA⟩
end Go.Abs
namespace Go.Abs
open Go.Proofs
theorem w17 (m:Int) (l:List Int):(pureW PI (GI m) XO (tbl [(24,s24w)]) (itbl []) (a17 l) [] 17 [.sl 1 (intsA l) .no] (.sl 11 (pksL (seL (numP l))) (.tok 0),[(l.length,35)])) =
((∃ (y:Nat),
    ValsAre [AV.sl ((1:Nat)) (intsA l) Own.no,AV.sl ((11:Nat)) [] (Own.tok ((0:Nat))),AV.int IntKind.i64 (0:Int)]
        [AV.sl ((1:Nat)) (intsA l) Own.no,AV.sl ((11:Nat)) (pksL (seL (numP (List.take y l)))) (Own.tok ((0:Nat))),AV.int IntKind.i64 (↑y:Int)] ∧
      StIs { boxes:=[],live:=[((0:Nat),(35:Nat))] } { boxes:=[],live:=[(List.length (numP (List.take y l)),(35:Nat))] } ∧
        y≤l.length∧True) ∧
  ∀ (x:Nat),
    x≤l.length →
      (decide ((↑x:Int) < (↑(intsA l).length:Int)) = true →
 ((0:Int)≤(↑x:Int)∧(↑x:Int) < (↑(intsA l).length:Int)) ∧
 ∃ (n:Int),
 takeAt PI ((3:Nat)) (intsA l) (↑x:Int).toNat ((0:Nat)) = some (AV.int IntKind.i64 n) ∧
 (60:Int) ≠ (0:Int) ∧
 (60:Int) ≠ (0:Int) ∧
 ∃ (s:List UInt8),
 ∃ (b:Bool),
 ∃ (n_1:Int),
 ∃ (s_1:List UInt8),
 ∃ (n_2:Int),
 ∃ (n_3:Int),
 ∃ (n_4:Int),
 ∃ (s_2:List UInt8),
 ∃ (s_3:List UInt8),
 ∃ (n_5:Int),
 ∃ (es:List AV),
 CallIs
 (some
 (AV.agg
 [AV.str [(97:UInt8),(112:UInt8),(112:UInt8)],
 AV.bool
 (sentP
 ((ByteArray.mk #[(97:UInt8),(112:UInt8),(112:UInt8)]).data.toList,
 IntKind.i64.wrap
 ((1:Int) + (IntKind.i64.wrap (n.tmod (60:Int) + (60:Int))).tmod (60:Int)))).ack,
 AV.int IntKind.i64
 (sentP
 ((ByteArray.mk #[(97:UInt8),(112:UInt8),(112:UInt8)]).data.toList,
 IntKind.i64.wrap
 ((1:Int) + (IntKind.i64.wrap (n.tmod (60:Int) + (60:Int))).tmod (60:Int)))).next,
 AV.str [(97:UInt8),(112:UInt8),(112:UInt8)],
 AV.int IntKind.i64
 (sentP
 ((ByteArray.mk #[(97:UInt8),(112:UInt8),(112:UInt8)]).data.toList,
 IntKind.i64.wrap
 ((1:Int) + (IntKind.i64.wrap (n.tmod (60:Int) + (60:Int))).tmod (60:Int)))).f.seq,
 AV.int IntKind.i64
 (sentP
 ((ByteArray.mk #[(97:UInt8),(112:UInt8),(112:UInt8)]).data.toList,
 IntKind.i64.wrap
 ((1:Int) + (IntKind.i64.wrap (n.tmod (60:Int) + (60:Int))).tmod (60:Int)))).f.kind,
 AV.int IntKind.i64
 (sentP
 ((ByteArray.mk #[(97:UInt8),(112:UInt8),(112:UInt8)]).data.toList,
 IntKind.i64.wrap
 ((1:Int) + (IntKind.i64.wrap (n.tmod (60:Int) + (60:Int))).tmod (60:Int)))).f.ref,
 AV.str [],AV.str [],
 AV.int IntKind.i64
 (sentP
 ((ByteArray.mk #[(97:UInt8),(112:UInt8),(112:UInt8)]).data.toList,
 IntKind.i64.wrap
 ((1:Int) + (IntKind.i64.wrap (n.tmod (60:Int) + (60:Int))).tmod (60:Int)))).f.event,
 AV.sl ((3:Nat)) [] Own.no],
 []))
 (AV.agg
 [AV.str s,AV.bool b,AV.int IntKind.i64 n_1,AV.str s_1,AV.int IntKind.i64 n_2,AV.int IntKind.i64 n_3,
 AV.int IntKind.i64 n_4,AV.str s_2,AV.str s_3,AV.int IntKind.i64 n_5,AV.sl ((3:Nat)) es Own.no])
 [] ∧
 ((11:Nat) = (11:Nat)∨pksL (seL (numP (List.take x l))) = []) ∧
 ((pksL (seL (numP (List.take x l)))).length + (1:Nat)) * (137:Nat)≤(70368744177664:Nat) ∧
 List.length (numP (List.take x l)) = (pksL (seL (numP (List.take x l)))).length ∧
 ∃ (y:Nat),
 ValsAre
 [AV.sl ((1:Nat)) (intsA l) Own.no,
 AV.sl ((11:Nat))
 (pksL (seL (numP (List.take x l))) ++
 [AV.agg
 [AV.str s,AV.bool b,AV.int IntKind.i64 n_1,AV.str s_1,AV.int IntKind.i64 n_2,
 AV.int IntKind.i64 n_3,AV.int IntKind.i64 n_4,AV.str s_2,AV.str s_3,
 AV.int IntKind.i64 n_5,AV.sl ((3:Nat)) es Own.no]])
 (Own.tok ((0:Nat))),
 AV.int IntKind.i64 (IntKind.i64.wrap ((↑x:Int) + (1:Int)))]
 [AV.sl ((1:Nat)) (intsA l) Own.no,
 AV.sl ((11:Nat)) (pksL (seL (numP (List.take y l)))) (Own.tok ((0:Nat))),
 AV.int IntKind.i64 (↑y:Int)] ∧
 StIs { boxes:=[],live:=[((pksL (seL (numP (List.take x l)))).length + (1:Nat),(35:Nat))] }
 { boxes:=[],live:=[(List.length (numP (List.take y l)),(35:Nat))] } ∧
 y≤l.length∧l.length - y < l.length - x) ∧
        (decide ((↑x:Int) < (↑(intsA l).length:Int)) = false →
 (List.length (numP (List.take x l)),(35:Nat)).fst = (pksL (seL (numP (List.take x l)))).length ∧
 RetIs (AV.sl ((11:Nat)) (pksL (seL (numP (List.take x l)))) (Own.tok ((0:Nat)))) [(List.length (numP (List.take x l)),(35:Nat))]
 (AV.sl ((11:Nat)) (pksL (seL (numP l))) (Own.tok ((0:Nat))),[(l.length,(35:Nat))]))):=by kernel_rfl
theorem w18 (m:Int) (ps:Arr):(laxW PI (GI m) XO (tbl [(10,s10w)]) (itbl []) (a18 ps) [] 18 [.agg [.sl 3 [] .no],.sl 11 (pksL (seL ps)) .no] (.tup [rcA (allS ps),.int .i64 (cntS ps),.bool true],[])) =
((∃ (y:Nat),
    ValsAre
        [AV.sl ((11:Nat)) (pksL (seL ps)) Own.no,AV.ptr ((0:Nat)) ((0:Nat)),AV.ptr ((1:Nat)) ((0:Nat)),AV.int IntKind.i64 (0:Int),
 AV.int IntKind.i64 (0:Int)]
        [AV.sl ((11:Nat)) (pksL (seL ps)) Own.no,AV.ptr ((0:Nat)) ((0:Nat)),AV.ptr ((1:Nat)) ((0:Nat)),
 AV.int IntKind.i64 (↑(cntS (List.take y ps)):Int),AV.int IntKind.i64 (↑y:Int)] ∧
      StIs { boxes:=[some [AV.sl ((3:Nat)) [] Own.no],some [AV.sl ((0:Nat)) [] Own.nil]],live:=[] }
 { boxes:=[some [AV.sl ((3:Nat)) (bxsL (allS (List.take y ps))) Own.no],some [AV.sl ((0:Nat)) [] Own.nil]],live:=[] } ∧
        y≤List.length ps∧True) ∧
  ∀ (x:Nat),
    x≤List.length ps →
      (decide ((↑x:Int) < (↑(pksL (seL ps)).length:Int)) = true →
 ((0:Int)≤(↑x:Int)∧(↑x:Int) < (↑(pksL (seL ps)).length:Int)) ∧
 ∃ (s:List UInt8),
 ∃ (b:Bool),
 ∃ (n:Int),
 ∃ (s_1:List UInt8),
 ∃ (n_1:Int),
 ∃ (n_2:Int),
 ∃ (n_3:Int),
 ∃ (s_2:List UInt8),
 ∃ (s_3:List UInt8),
 ∃ (n_4:Int),
 ∃ (es:List AV),
 takeAt PI ((35:Nat)) (pksL (seL ps)) (↑x:Int).toNat ((0:Nat)) =
 some
 (AV.agg
 [AV.str s,AV.bool b,AV.int IntKind.i64 n,AV.str s_1,AV.int IntKind.i64 n_1,AV.int IntKind.i64 n_2,
 AV.int IntKind.i64 n_3,AV.str s_2,AV.str s_3,AV.int IntKind.i64 n_4,AV.sl ((3:Nat)) es Own.no]) ∧
 ∃ (es_1:List AV),
 ∃ (b_1:Bool),
 ∃ (s_4:List UInt8),
 ∃ (b_2:Bool),
 ∃ (n_5:Int),
 ∃ (n_6:Int),
 CallIs
 (tbl [((10:Nat),s10w)] ((10:Nat))
 [AV.agg [AV.sl ((3:Nat)) (bxsL (allS (List.take x ps))) Own.no],
 AV.agg
 [AV.str s,AV.bool b,AV.int IntKind.i64 n,AV.str s_1,AV.int IntKind.i64 n_1,
 AV.int IntKind.i64 n_2,AV.int IntKind.i64 n_3,AV.str s_2,AV.str s_3,AV.int IntKind.i64 n_4,
 AV.sl ((3:Nat)) es Own.no]])
 (AV.tup
 [AV.agg [AV.sl ((3:Nat)) es_1 Own.no],AV.bool b_1,
 AV.agg
 [AV.str s_4,AV.bool b_2,AV.int IntKind.i64 n_5,AV.str [],AV.int IntKind.i64 (0:Int),
 AV.int IntKind.i64 (0:Int),AV.int IntKind.i64 (0:Int),AV.str [],AV.str [],
 AV.int IntKind.i64 (0:Int),AV.sl ((3:Nat)) [] Own.no],
 AV.int IntKind.i64 n_6])
 [] ∧
 (b_1 = true →
 ((n_6 != (0:Int)) = true →
 RetLax
 (AV.tup
 [AV.agg [AV.sl ((3:Nat)) (bxsL (allS (List.take x ps))) Own.no],AV.int IntKind.i64 (0:Int),
 AV.bool false])
 (AV.tup
 [AV.agg [AV.sl ((3:Nat)) (bxsL (allS ps)) Own.no],AV.int IntKind.i64 (↑(cntS ps):Int),
 AV.bool true],
 [])) ∧
 ((n_6 != (0:Int)) = false →
 ∃ (y:Nat),
 ValsAre
 [AV.sl ((11:Nat)) (pksL (seL ps)) Own.no,AV.ptr ((0:Nat)) ((0:Nat)),
 AV.ptr ((1:Nat)) ((0:Nat)),
 AV.int IntKind.i64 (IntKind.i64.wrap ((↑(cntS (List.take x ps)):Int) + (1:Int))),
 AV.int IntKind.i64 (IntKind.i64.wrap ((↑x:Int) + (1:Int)))]
 [AV.sl ((11:Nat)) (pksL (seL ps)) Own.no,AV.ptr ((0:Nat)) ((0:Nat)),
 AV.ptr ((1:Nat)) ((0:Nat)),AV.int IntKind.i64 (↑(cntS (List.take y ps)):Int),
 AV.int IntKind.i64 (↑y:Int)] ∧
 StIs
 { boxes:=[some [AV.sl ((3:Nat)) es_1 Own.no],some [AV.sl ((0:Nat)) [] Own.nil]],live:=[] }
 { boxes:=[some [AV.sl ((3:Nat)) (bxsL (allS (List.take y ps))) Own.no],some [AV.sl ((0:Nat)) [] Own.nil]],live:=[] } ∧
 y≤List.length ps∧List.length ps - y < List.length ps - x)) ∧
 (b_1 = false →
 ((n_6 != (0:Int)) = true →
 RetLax
 (AV.tup
 [AV.agg [AV.sl ((3:Nat)) (bxsL (allS (List.take x ps))) Own.no],AV.int IntKind.i64 (0:Int),
 AV.bool false])
 (AV.tup
 [AV.agg [AV.sl ((3:Nat)) (bxsL (allS ps)) Own.no],AV.int IntKind.i64 (↑(cntS ps):Int),
 AV.bool true],
 [])) ∧
 ((n_6 != (0:Int)) = false →
 ∃ (y:Nat),
 ValsAre
 [AV.sl ((11:Nat)) (pksL (seL ps)) Own.no,AV.ptr ((0:Nat)) ((0:Nat)),
 AV.ptr ((1:Nat)) ((0:Nat)),AV.int IntKind.i64 (↑(cntS (List.take x ps)):Int),
 AV.int IntKind.i64 (IntKind.i64.wrap ((↑x:Int) + (1:Int)))]
 [AV.sl ((11:Nat)) (pksL (seL ps)) Own.no,AV.ptr ((0:Nat)) ((0:Nat)),
 AV.ptr ((1:Nat)) ((0:Nat)),AV.int IntKind.i64 (↑(cntS (List.take y ps)):Int),
 AV.int IntKind.i64 (↑y:Int)] ∧
 StIs
 { boxes:=[some [AV.sl ((3:Nat)) es_1 Own.no],some [AV.sl ((0:Nat)) [] Own.nil]],live:=[] }
 { boxes:=[some [AV.sl ((3:Nat)) (bxsL (allS (List.take y ps))) Own.no],some [AV.sl ((0:Nat)) [] Own.nil]],live:=[] } ∧
 y≤List.length ps∧List.length ps - y < List.length ps - x))) ∧
        (decide ((↑x:Int) < (↑(pksL (seL ps)).length:Int)) = false →
 RetLax (AV.tup [AV.agg [AV.sl ((3:Nat)) (bxsL (allS (List.take x ps))) Own.no],AV.int IntKind.i64 (↑(cntS (List.take x ps)):Int),AV.bool true])
 (AV.tup [AV.agg [AV.sl ((3:Nat)) (bxsL (allS ps)) Own.no],AV.int IntKind.i64 (↑(cntS ps):Int),AV.bool true],[]))):=by kernel_rfl
theorem w18e (m:Int):(laxW PI (GI m) XO (tbl [(10,s10w)]) (itbl []) a18e [] 18 [.agg [.sl 3 [] .no],.sl 3 [] .no] (.tup [.agg [.sl 3 [] .no],.int .i64 0,.bool true],[])) =
((∃ (_y:Unit),
    ValsAre
        [AV.sl ((3:Nat)) [] Own.no,AV.ptr ((0:Nat)) ((0:Nat)),AV.ptr ((1:Nat)) ((0:Nat)),AV.int IntKind.i64 (0:Int),
 AV.int IntKind.i64 (0:Int)]
        [AV.sl ((3:Nat)) [] Own.no,AV.ptr ((0:Nat)) ((0:Nat)),AV.ptr ((1:Nat)) ((0:Nat)),AV.int IntKind.i64 (0:Int),
 AV.int IntKind.i64 (0:Int)] ∧
      StIs { boxes:=[some [AV.sl ((3:Nat)) [] Own.no],some [AV.sl ((0:Nat)) [] Own.nil]],live:=[] }
 { boxes:=[some [AV.sl ((3:Nat)) [] Own.no],some [AV.sl ((0:Nat)) [] Own.nil]],live:=[] } ∧
        True∧True) ∧
  ∀ (_x:Unit),
    True →
      (false = true→((0:Int)≤(0:Int)∧(0:Int) < (0:Int))∧False) ∧
        (false = false →
 RetLax (AV.tup [AV.agg [AV.sl ((3:Nat)) [] Own.no],AV.int IntKind.i64 (0:Int),AV.bool true])
 (AV.tup [AV.agg [AV.sl ((3:Nat)) [] Own.no],AV.int IntKind.i64 (0:Int),AV.bool true],[]))):=by kernel_rfl
theorem w43 (m:Int) (s fs:List UInt8) (k:Bool) (nx q:Int):(pureW PI (GI m) XO (tbl [(27,s27),(61,s61)]) (itbl []) nAn [] 43 [.agg [.str s,.bool k,.int .i64 nx,.str fs,.int .i64 q,.int .i64 0,.int .i64 0,.str [],.str [],.int .i64 0,.sl 3 [] .no]] (.bool (if k then nameR s && (decide (1≤nx) && decide (nx≤1099511627777)) else nameR s && (decide (nx = 0) && decide (fs = s))),[])) =
(∃ (b:Bool),
  CallIs (tbl [((27:Nat),s27),((61:Nat),s61)] ((27:Nat)) [AV.str s]) (AV.bool b) [] ∧
    (b = true →
        (k = true →
 (decide (nx ≥ (1:Int)) = true →
 (decide (nx≤(1099511627777:Int)) = true →
 ∃ (b:Bool),
 CallIs
 (tbl [((27:Nat),s27),((61:Nat),s61)] ((61:Nat))
 [AV.agg
 [AV.str fs,AV.int IntKind.i64 q,AV.int IntKind.i64 (0:Int),AV.int IntKind.i64 (0:Int),AV.str [],AV.str [],
 AV.int IntKind.i64 (0:Int),AV.sl ((3:Nat)) [] Own.no],
 AV.agg
 [AV.str [],AV.int IntKind.i64 (0:Int),AV.int IntKind.i64 (0:Int),AV.int IntKind.i64 (0:Int),AV.str [],AV.str [],
 AV.int IntKind.i64 (0:Int),AV.sl ((0:Nat)) [] Own.nil]])
 (AV.bool b) [] ∧
 (b = true →
 RetIs (AV.bool true) []
 (AV.bool
 (if k = true then nameR s && (decide ((1:Int)≤nx) && decide (nx≤(1099511627777:Int)))
 else nameR s && (decide (nx = (0:Int)) && decide (fs = s))),
 [])) ∧
 (b = false →
 RetIs (AV.bool false) []
 (AV.bool
 (if k = true then nameR s && (decide ((1:Int)≤nx) && decide (nx≤(1099511627777:Int)))
 else nameR s && (decide (nx = (0:Int)) && decide (fs = s))),
 []))) ∧
 (decide (nx≤(1099511627777:Int)) = false →
 RetIs (AV.bool false) []
 (AV.bool
 (if k = true then nameR s && (decide ((1:Int)≤nx) && decide (nx≤(1099511627777:Int)))
 else nameR s && (decide (nx = (0:Int)) && decide (fs = s))),
 []))) ∧
 (decide (nx ≥ (1:Int)) = false →
 RetIs (AV.bool false) []
 (AV.bool
 (if k = true then nameR s && (decide ((1:Int)≤nx) && decide (nx≤(1099511627777:Int)))
 else nameR s && (decide (nx = (0:Int)) && decide (fs = s))),
 []))) ∧
 (k = false →
 ((nx == (0:Int)) = true →
 ((fs == s) = true →
 RetIs (AV.bool true) []
 (AV.bool
 (if k = true then nameR s && (decide ((1:Int)≤nx) && decide (nx≤(1099511627777:Int)))
 else nameR s && (decide (nx = (0:Int)) && decide (fs = s))),
 [])) ∧
 ((fs == s) = false →
 RetIs (AV.bool false) []
 (AV.bool
 (if k = true then nameR s && (decide ((1:Int)≤nx) && decide (nx≤(1099511627777:Int)))
 else nameR s && (decide (nx = (0:Int)) && decide (fs = s))),
 []))) ∧
 ((nx == (0:Int)) = false →
 RetIs (AV.bool false) []
 (AV.bool
 (if k = true then nameR s && (decide ((1:Int)≤nx) && decide (nx≤(1099511627777:Int)))
 else nameR s && (decide (nx = (0:Int)) && decide (fs = s))),
 [])))) ∧
      (b = false →
        RetIs (AV.bool false) []
 (AV.bool
 (if k = true then nameR s && (decide ((1:Int)≤nx) && decide (nx≤(1099511627777:Int)))
 else nameR s && (decide (nx = (0:Int)) && decide (fs = s))),
 []))):=by kernel_rfl
theorem w19 (m:Int) (ps:List PkI):(pureW PI (GI m) XO (tbl [(43,s43)]) (itbl []) (a19 ps) [] 19 [.agg [.sl 11 (pksL ps) .no]] (.int .i64 (if ps.length≤1024∧ps.all fmP = true then 0 else 1),[])) =
((decide ((↑(pksL ps).length:Int) > (1024:Int)) = true →
    RetIs (AV.int IntKind.i64 (1:Int)) [] (AV.int IntKind.i64 (if ps.length≤(1024:Nat)∧ps.all fmP = true then (0:Int) else (1:Int)),[])) ∧
  (decide ((↑(pksL ps).length:Int) > (1024:Int)) = false →
    (∃ (y : Nat),
        ValsAre
 [AV.ptr ((0:Nat)) ((0:Nat)),AV.sl ((11:Nat)) (pksL ps) Own.no,AV.int IntKind.i64 (↑(pksL ps).length:Int),AV.int IntKind.i64 (0:Int)]
 [AV.ptr ((0:Nat)) ((0:Nat)),AV.sl ((11:Nat)) (pksL ps) Own.no,AV.int IntKind.i64 (↑ps.length:Int),AV.int IntKind.i64 (↑y:Int)] ∧
 StIs { boxes:=[some [AV.sl ((11:Nat)) (pksL ps) Own.no]],live:=[] } { boxes:=[some [AV.sl ((11:Nat)) (pksL ps) Own.no]],live:=[] } ∧
 (y≤ps.length∧(List.take y ps).all fmP = true)∧True) ∧
      ∀ (x:Nat),
        x≤ps.length∧(List.take x ps).all fmP = true →
 (decide ((↑x:Int) < (↑ps.length:Int)) = true →
 ((0:Int)≤(↑x:Int)∧(↑x:Int) < (↑(pksL ps).length:Int)) ∧
 ∃ (s:List UInt8),
 ∃ (b:Bool),
 ∃ (n:Int),
 ∃ (s_1:List UInt8),
 ∃ (n_1:Int),
 ∃ (n_2:Int),
 ∃ (n_3:Int),
 ∃ (s_2:List UInt8),
 ∃ (s_3:List UInt8),
 ∃ (n_4:Int),
 ∃ (es:List AV),
 takeAt PI ((35:Nat)) (pksL ps) (↑x:Int).toNat ((0:Nat)) =
 some
 (AV.agg
 [AV.str s,AV.bool b,AV.int IntKind.i64 n,AV.str s_1,AV.int IntKind.i64 n_1,AV.int IntKind.i64 n_2,
 AV.int IntKind.i64 n_3,AV.str s_2,AV.str s_3,AV.int IntKind.i64 n_4,AV.sl ((3:Nat)) es Own.no]) ∧
 ∃ (b_1:Bool),
 CallIs
 (tbl [((43:Nat),s43)] ((43:Nat))
 [AV.agg
 [AV.str s,AV.bool b,AV.int IntKind.i64 n,AV.str s_1,AV.int IntKind.i64 n_1,AV.int IntKind.i64 n_2,
 AV.int IntKind.i64 n_3,AV.str s_2,AV.str s_3,AV.int IntKind.i64 n_4,AV.sl ((3:Nat)) es Own.no]])
 (AV.bool b_1) [] ∧
 (b_1 = true →
 ∃ (y:Nat),
 ValsAre
 [AV.ptr ((0:Nat)) ((0:Nat)),AV.sl ((11:Nat)) (pksL ps) Own.no,
 AV.int IntKind.i64 (↑ps.length:Int),AV.int IntKind.i64 (IntKind.i64.wrap ((↑x:Int) + (1:Int)))]
 [AV.ptr ((0:Nat)) ((0:Nat)),AV.sl ((11:Nat)) (pksL ps) Own.no,
 AV.int IntKind.i64 (↑ps.length:Int),AV.int IntKind.i64 (↑y:Int)] ∧
 StIs { boxes:=[some [AV.sl ((11:Nat)) (pksL ps) Own.no]],live:=[] }
 { boxes:=[some [AV.sl ((11:Nat)) (pksL ps) Own.no]],live:=[] } ∧
 (y≤ps.length∧(List.take y ps).all fmP = true)∧ps.length - y < ps.length - x) ∧
 (b_1 = false →
 RetIs (AV.int IntKind.i64 (1:Int)) []
 (AV.int IntKind.i64 (if ps.length≤(1024:Nat)∧ps.all fmP = true then (0:Int) else (1:Int)),[]))) ∧
 (decide ((↑x:Int) < (↑ps.length:Int)) = false →
 RetIs (AV.int IntKind.i64 (0:Int)) [] (AV.int IntKind.i64 (if ps.length≤(1024:Nat)∧ps.all fmP = true then (0:Int) else (1:Int)),[])))):=by kernel_rfl
end Go.Abs
namespace Go.Abs
open Go.Proofs Go.RowKit
theorem numN_rng (x:Int):1≤numN x∧numN x≤60:=by
 unfold numN
 have h1:x.tmod 60 < 60:=Int.tmod_lt_of_pos x (by omega)
 have h2:-60 < x.tmod 60:=by
  have:=Int.lt_tmod_of_pos x (b:=60) (by omega)
  omega
 have h3:(x.tmod 60 + 60).tmod 60 < 60:=Int.tmod_lt_of_pos _ (by omega)
 have h4:0≤(x.tmod 60 + 60).tmod 60:=Int.tmod_nonneg _ (by omega)
 omega
theorem tmod_rng (x:Int):-60 < x.tmod 60∧x.tmod 60 < 60:=by
 have h1:x.tmod 60 < 60:=Int.tmod_lt_of_pos x (by omega)
 have:=Int.lt_tmod_of_pos x (b:=60) (by omega)
 exact ⟨by omega,h1⟩
theorem num_wrap (x:Int):IntKind.i64.wrap (1 + (IntKind.i64.wrap (x.tmod 60 + 60)).tmod 60) = numN x:=by
 have h:=tmod_rng x
 rw [wrap64_in (n:=x.tmod 60 + 60) (by omega) (by omega)]
 have h2:=numN_rng x
 unfold numN at *
 exact wrap64_in (by omega) (by omega)
theorem take_int {l:List Int} {i:Nat} {x:Int} (h:l[i]? = some x):takeAt PI 3 (intsA l) i 0 = some (.int .i64 x):=by
 simp only [takeAt,List.getElem?_map,h,Option.map_some,takeA,agg3i,size3i]
 rfl
theorem numP_len (l:List Int):(numP l).length = l.length:=List.length_map ..
theorem seL_len (l:Arr):(seL l).length = l.length:=List.length_map ..
theorem pksL_len (l:List PkI):(pksL l).length = l.length:=List.length_map ..
theorem p17 (m:Int) (l:List Int) (hl:l.length≤2000000):PureOk PI (GI m) XO (tbl [(24,s24w)]) (itbl []) (a17 l) [] 17 [.sl 1 (intsA l) .no] (.sl 11 (pksL (seL (numP l))) (.tok 0),[(l.length,35)]):=by
 constructor
 rw [w17]
 have hll:(intsA l).length = l.length:=List.length_map ..
 have hpl:∀ n,n≤l.length→(pksL (seL (numP (l.take n)))).length = n:=fun n hn=>by rw [pksL_len,seL_len,numP_len,List.length_take]; omega
 have hnl:∀ n,n≤l.length→(numP (l.take n)).length = n:=fun n hn=>by rw [numP_len,List.length_take]; omega
 rw [hll]
 refine ⟨⟨0,⟨rfl⟩,⟨rfl⟩,Nat.zero_le _,trivial⟩,fun x hx=>⟨fun hlt=>?_,fun hge=>?_⟩⟩
 ·have hlt:=of_decide_eq_true hlt
  have hxl:x < l.length:=by omega
  refine ⟨⟨by omega,hlt⟩,_,by rw [Int.toNat_natCast]; exact take_int (List.getElem?_eq_getElem hxl),by omega,by omega,_,_,_,_,_,_,_,_,_,_,_,⟨rfl⟩,.inl rfl,by rw [hpl _ hx]; omega,by rw [hpl _ hx,hnl _ hx],x + 1,⟨?_⟩,⟨?_⟩,hxl,by omega⟩
  ·rw [wrapN (by omega),List.take_succ_eq_append_getElem hxl]
   simp only [numP,List.map_append,List.map_cons,List.map_nil,seL,pksL]
   have e:numN l[x] = IntKind.i64.wrap (1 + (IntKind.i64.wrap (l[x].tmod 60 + 60)).tmod 60):=(num_wrap _).symm
   rw [e]
   rfl
  ·rw [hpl _ hx,hnl _ hxl]
 ·have hge:=of_decide_eq_false hge
  have hxl:x = l.length:=by omega
  subst hxl
  rw [hpl _ (Nat.le_refl _),hnl _ (Nat.le_refl _)]
  exact ⟨rfl,⟨by rw [List.take_of_length_le (Nat.le_refl _)]⟩⟩
theorem o17 (m:Int):SpecOk PI (GI m) 17 s17:=spec_of (X:=XO) (m:=[]) mixedI (tbl_cons (o24w m) tbl_nil) itbl_nil fun args r h=>by
 unfold s17 at h
 split at h
 case h_2=>cases h
 split at h
 case isFalse=>cases h
 rename_i hc
 obtain ⟨rfl,hl⟩:=hc
 split at h
 case h_2=>cases h
 rename_i l hu
 obtain rfl:_ = intsA l:=unL_inv unIn_inv hu
 injection h with h; subst h
 rw [List.length_map] at hl
 exact ⟨_,p17 m l hl⟩
/-! the receiver behind a list of packets -/
theorem allS_snoc (ps:Arr) (p:List UInt8 × Int):allS (ps ++ [p]) = rStep (allS ps) p:=by simp [allS,List.foldl_append]
theorem allS_ok:∀ (ps:Arr) (r:List BxI),RcvP r→RcvP (ps.foldl rStep r)
 | [],r,h=>h
 | p :: ps,r,h=>allS_ok ps _ (by
  unfold rStep
  cases hr:recvP r (pqN p.1 p.2) with
  | err c=>exact h
  | out r' f s n=>exact recv_ok h hr)
theorem rcv_nil:RcvP []:=⟨fun b hb=>(by cases hb),List.Pairwise.nil,Nat.zero_le _⟩
theorem name_app:nameR appN = true:=by kernel_rfl
theorem name_web:nameR webN = true:=by kernel_rfl
structure OkPs (ps:Arr):Prop where
 len:ps.length≤200
 all:∀ p ∈ ps,(p.1 = appN∨p.1 = webN)∧1≤p.2∧p.2≤60
theorem okPs_iff {ps:Arr}:okPs ps = true ↔ OkPs ps:=by
 simp only [okPs,Bool.and_eq_true,decide_eq_true_eq,List.all_eq_true,Bool.or_eq_true]
 exact ⟨fun ⟨h1,h2⟩=>⟨h1,fun p hp=>⟨(h2 p hp).1.1,(h2 p hp).1.2,(h2 p hp).2⟩⟩,fun h=>⟨h.len,fun p hp=>⟨⟨(h.all p hp).1,(h.all p hp).2.1⟩,(h.all p hp).2.2⟩⟩⟩
theorem can_len {S:Arr} {r:List BxI} (h:Can S r) (hs:∀ p ∈ S,p.1 = appN∨p.1 = webN):r.length≤2:=by
 have hnd:(r.map (·.src)).Nodup:=by
  unfold List.Nodup
  rw [List.pairwise_map]
  exact h.asc.imp fun h e=>by rw [e] at h; exact List.lt_irrefl _ h
 have:=nodup_len (m:=[appN,webN]) hnd fun s hm=>by
  obtain ⟨b,hb,rfl⟩:=List.mem_map.1 hm
  obtain ⟨n,hn⟩:=(h.src b.src).1 ⟨b,hb,rfl⟩
  rcases hs _ hn with h | h
  ·simp only at h; rw [h]; simp
  ·simp only at h; rw [h]; simp
 simpa using this
theorem bOf_lo {S:Arr} {r:List BxI} (h:Can S r) (s:List UInt8):1≤(bOf r s).next:=by
 unfold bOf
 split
 ·rename_i ho
  obtain ⟨hlt,_⟩:=old_at ho
  rw [List.getD_eq_getElem?_getD,List.getElem?_eq_getElem hlt]
  exact (h.box _ (List.getElem_mem hlt)).lo
 ·exact Int.le_refl _
theorem all_can (ps:Arr) (h:OkPs ps):∀ i,i≤ps.length→Can (ps.take i) (allS (ps.take i))
 | 0,_=>can_nil
 | i + 1,hi=>by
  have ih:=all_can ps h i (by omega)
  have hp:=h.all _ (List.getElem_mem (show i < ps.length by omega))
  rw [List.take_succ_eq_append_getElem (by omega),allS_snoc]
  obtain ⟨r',nx,h1,h2,_⟩:=can_step (s:=(ps[i]).1) (n:=(ps[i]).2) ih (by rcases hp.1 with e | e <;> rw [e]; exact name_app; exact name_web) hp.2.1 (by unfold maxT; omega) (by have:=bOf_lo ih (ps[i]).1; omega) (.inl (by
   have:=can_len ih fun p hp=>(h.all p (List.mem_of_mem_take hp)).1
   omega))
  unfold rStep
  rw [h1]
  exact h2.congr fun p=>by
   simp only [List.mem_append,List.mem_cons,List.not_mem_nil,or_false]
   exact Or.comm
theorem can_all {ps:Arr} (h:OkPs ps):Can ps (allS ps):=by
 have:=all_can ps h ps.length (Nat.le_refl _)
 rwa [List.take_of_length_le (Nat.le_refl _)] at this
theorem all_step {ps:Arr} (h:OkPs ps) {i:Nat} (hi:i < ps.length):∃ nx,recvP (allS (ps.take i)) (pqN (ps[i]).1 (ps[i]).2) = .out (allS (ps.take (i + 1))) (decide (ps[i] ∉ ps.take i)) (ps[i]).1 nx∧∃ b ∈ allS (ps.take (i + 1)),b.src = (ps[i]).1∧b.next = nx:=by
 have ih:=all_can ps h i (by omega)
 have hp:=h.all _ (List.getElem_mem hi)
 obtain ⟨r',nx,h1,h2,h3⟩:=can_step (s:=(ps[i]).1) (n:=(ps[i]).2) ih (by rcases hp.1 with e | e <;> rw [e]; exact name_app; exact name_web) hp.2.1 (by unfold maxT; omega) (by have:=bOf_lo ih (ps[i]).1; omega) (.inl (by
   have:=can_len ih fun p hp=>(h.all p (List.mem_of_mem_take hp)).1
   omega))
 have e:allS (ps.take (i + 1)) = r':=by
  rw [List.take_succ_eq_append_getElem hi,allS_snoc]
  unfold rStep
  rw [h1]
 exact ⟨nx,by rw [e,h1],by rw [e]; exact h3⟩
theorem uniq_snoc (ps:Arr) (p:List UInt8 × Int):uniq id (ps ++ [p]) = addU p (uniq id ps):=by simp [uniq,List.foldl_append]
theorem cnt_step {ps:Arr} {i:Nat} (hi:i < ps.length):cntS (ps.take (i + 1)) = cntS (ps.take i) + (if ps[i] ∉ ps.take i then 1 else 0):=by
 unfold cntS
 rw [List.take_succ_eq_append_getElem hi,uniq_snoc]
 unfold addU
 have e:ps[i] ∈ uniq id (ps.take i) ↔ ps[i] ∈ ps.take i:=by rw [uniq_mem]; simp
 by_cases h:ps[i] ∈ ps.take i
 ·rw [if_pos (e.2 h)]; simp [h]
 ·rw [if_neg (fun h'=>h (e.1 h'))]; simp [h]
theorem cnt_le (ps:Arr):cntS ps≤ps.length:=nodup_len uniq_nodup fun x hx=>by
 obtain ⟨e,he,rfl⟩:=uniq_mem.1 hx
 exact he
theorem cnt_congr {ps qs:Arr} (h:∀ p,p ∈ ps ↔ p ∈ qs):cntS ps = cntS qs:=by
 refine Nat.le_antisymm (nodup_len uniq_nodup fun x hx=>?_) (nodup_len uniq_nodup fun x hx=>?_)
 ·obtain ⟨e,he,rfl⟩:=uniq_mem.1 hx
  exact uniq_mem.2 ⟨e,(h e).1 he,rfl⟩
 ·obtain ⟨e,he,rfl⟩:=uniq_mem.1 hx
  exact uniq_mem.2 ⟨e,(h e).2 he,rfl⟩
theorem c10o {q:List BxI} {p:List UInt8 × Int} {l:List (FuncId × Spec)} (hq:RcvP q) (hp:p.1.length≤2000000):tbl ((10,s10w) :: l) 10 [.agg [.sl 3 (bxsL q) .no],pkA (sentP p)] = some (rcvWA (recvW (recvP q (pqN p.1 p.2))),[]):=by
 rw [tbl_hit]
 unfold pkA s10w
 simp only [rcvOf,if_true,unBs_ok]
 rw [if_pos (show (sentP p).src.length≤2000000 from hp),if_pos (rcvOk_iff.2 hq)]; rfl
theorem take_se {l:Arr} {i:Nat} {p:List UInt8 × Int} (h:l[i]? = some p):takeAt PI 35 (pksL (seL l)) i 0 = some (pkA (sentP p)):=by
 simp only [takeAt,List.getElem?_map,h,Option.map_some,takeA,agg35,size35]
 rfl
theorem p18 (m:Int) (ps:Arr) (h:OkPs ps):LaxOk PI (GI m) XO (tbl [(10,s10w)]) (itbl []) (a18 ps) [] 18 [.agg [.sl 3 [] .no],.sl 11 (pksL (seL ps)) .no] (.tup [rcA (allS ps),.int .i64 (cntS ps),.bool true],[]):=by
  constructor
  rw [w18]
  have hll:(pksL (seL ps)).length = ps.length:=by rw [pksL_len,seL_len]
  have h200:=h.len
  rw [hll]
  refine ⟨⟨0,⟨rfl⟩,⟨rfl⟩,Nat.zero_le _,trivial⟩,fun x hx=>⟨fun hlt=>?_,fun hge=>?_⟩⟩
  · have hlt := of_decide_eq_true hlt
    have hxl:x < ps.length:=by omega
    have hp:=h.all _ (List.getElem_mem hxl)
    obtain ⟨nx,hr,_⟩:=all_step h hxl
    have hR:RcvP (allS (ps.take x)):=allS_ok _ _ rcv_nil
    have hpl:(ps[x]).1.length≤2000000:=by rcases hp.1 with e | e <;> rw [e] <;> simp
    have hc:=c10o (l:=[]) hR hpl
    rw [hr] at hc
    have hcl : cntS (ps.take x) ≤ 200 := by have := cnt_le (ps.take x); have : (ps.take x).length ≤ ps.length := by rw [List.length_take]; omega
                                            omega
    have hcs:=cnt_step hxl
    refine ⟨⟨by omega,hlt⟩,_,_,_,_,_,_,_,_,_,_,_,by rw [Int.toNat_natCast]; exact take_se (List.getElem?_eq_getElem hxl),_,_,_,_,_,_,⟨hc⟩,fun hb=>⟨fun h0=>absurd (show ((0:Int) != 0) = true from h0) (by decide),fun _=>⟨x + 1,⟨?_⟩,⟨rfl⟩,hxl,by omega⟩⟩,fun hb=>⟨fun h0=>absurd (show ((0:Int) != 0) = true from h0) (by decide),fun _=>⟨x + 1,⟨?_⟩,⟨rfl⟩,hxl,by omega⟩⟩⟩
    · have hb : decide (ps[x] ∉ ps.take x) = true := hb
      rw [hcs,if_pos (of_decide_eq_true hb),wrapN (by omega),wrapN (by omega)]
    · have hb : decide (ps[x] ∉ ps.take x) = false := hb
      rw [hcs,if_neg (of_decide_eq_false hb),wrapN (by omega)]
      rfl
  · have hge := of_decide_eq_false hge
    have hxl:x = ps.length:=by omega
    subst hxl
    rw [List.take_of_length_le (Nat.le_refl _)]
    exact ⟨⟨⟨⟨rfl,rfl,.inl rfl⟩,trivial⟩,rfl,rfl,trivial⟩,rfl,rfl⟩
theorem unS_inv (a:AV) (x:List UInt8 × Int) (h:unS a = some x):a = pkA (sentP x):=by
 unfold unS at h
 split at h
 ·rename_i p hp
  split at h
  ·rename_i he
   injection h with h; subst h
   rw [unQ_inv _ _ hp]
   conv=>lhs; rw [he]
  ·cases h
 ·cases h
theorem unS_ok (p:List UInt8 × Int):unS (pkA (sentP p)) = some p:=by
 unfold unS
 rw [unQ_ok]
 simp only
 rw [if_pos (by rfl)]
 rfl
theorem o18 (m:Int):SpecOk PI (GI m) 18 s18:=lax_of (X:=XO) (m:=[]) mixedI (tbl_cons (o10w m) tbl_nil) itbl_nil fun args r h=>by
 unfold s18 at h
 split at h
 case h_2=>cases h
 rename_i sz0 sz es
 split at h
 case isFalse=>cases h
 rename_i hz
 split at h
 case h_2=>cases h
 rename_i ps hu
 split at h
 case isFalse=>cases h
 rename_i hk
 injection h with h; subst h
 have hk:=okPs_iff.1 hk
 obtain rfl:es = pksL (seL ps):=by
  have:=unL_inv unS_inv hu
  rw [this,pksL,seL,List.map_map]; rfl
 obtain ⟨rfl,rfl | ⟨he,rfl⟩⟩:=hz
 ·exact ⟨_,p18 m ps hk⟩
 ·have hp:ps = []:=by
   have:=congrArg List.length he
   rw [pksL_len,seL_len] at this
   exact List.eq_nil_of_length_eq_zero this
  subst hp
  refine ⟨a18e,⟨?_⟩⟩
  show laxW PI (GI m) XO (tbl [(10,s10w)]) (itbl []) a18e [] 18 [.agg [.sl 3 [] .no],.sl 3 [] .no] (.tup [.agg [.sl 3 [] .no],.int .i64 0,.bool true],[])
  rw [w18e]
  exact ⟨⟨(),⟨rfl⟩,⟨rfl⟩,trivial,trivial⟩,fun _ _=>⟨fun h=>(by cases h),fun _=>⟨⟨⟨⟨rfl,rfl,.inl rfl⟩,trivial⟩,rfl,rfl,trivial⟩,rfl,rfl⟩⟩⟩
theorem o61 (m:Int):SpecOk PI (GI m) 61 s61:=spec_run mixedI tbl_nil fun args r h=>by
 unfold s61 at h
 split at h
 case h_2=>cases h
 split at h
 case isFalse=>cases h
 rename_i hc
 obtain ⟨rfl,rfl,rfl,rfl,rfl,rfl,rfl,rfl,rfl,rfl⟩:=hc
 injection h with h; subst h
 exact ⟨3,by kernel_rfl⟩
theorem p43 (m:Int) (s fs:List UInt8) (k:Bool) (nx q:Int) (hs:s.length≤2000000) (hk:k = true→fs = []∧q = 0):PureOk PI (GI m) XO (tbl [(27,s27),(61,s61)]) (itbl []) nAn [] 43 [.agg [.str s,.bool k,.int .i64 nx,.str fs,.int .i64 q,.int .i64 0,.int .i64 0,.str [],.str [],.int .i64 0,.sl 3 [] .no]] (.bool (if k then nameR s && (decide (1≤nx) && decide (nx≤1099511627777)) else nameR s && (decide (nx = 0) && decide (fs = s))),[]):=by
 constructor
 rw [w43]
 refine ⟨nameR s,⟨c27 hs⟩,fun hn=>⟨fun hk'=>⟨fun h1=>⟨fun h2=>?_,fun h2=>⟨?_⟩⟩,fun h1=>⟨?_⟩⟩,fun hk'=>⟨fun h1=>⟨fun h2=>⟨?_⟩,fun h2=>⟨?_⟩⟩,fun h1=>⟨?_⟩⟩⟩,fun hn=>⟨?_⟩⟩
 ·obtain ⟨rfl,rfl⟩:=hk hk'
  have h1:=of_decide_eq_true h1
  have h2:=of_decide_eq_true h2
  refine ⟨true,⟨by rw [tbl_miss (by decide),tbl_hit]; rfl⟩,fun _=>⟨?_⟩,fun h=>(by cases h)⟩
  have h1':(1:Int)≤nx:=h1
  rw [if_pos hk',hn]
  simp [h1',h2]
 ·have h2:=of_decide_eq_false h2
  rw [if_pos hk']; simp [h2]
 ·have h1:=of_decide_eq_false h1
  have h1':¬ (1:Int)≤nx:=h1
  rw [if_pos hk']; simp [h1']
 ·have h1:nx = 0:=by simpa using h1
  have h2:fs = s:=by simpa using h2
  rw [if_neg (by rw [hk']; simp),hn]; simp [h1,h2]
 ·have h2:¬ fs = s:=by simpa using h2
  rw [if_neg (by rw [hk']; simp)]; simp [h2]
 ·have h1:¬ nx = 0:=by simpa using h1
  rw [if_neg (by rw [hk']; simp)]; simp [h1]
 ·split <;> rw [hn] <;> rfl
theorem o43 (m:Int):SpecOk PI (GI m) 43 s43:=spec_of (X:=XO) (m:=[]) mixedI (tbl_cons (o27 m) (tbl_cons (o61 m) tbl_nil)) itbl_nil fun args r h=>by
 unfold s43 at h
 split at h
 case h_2=>cases h
 split at h
 case isFalse=>cases h
 rename_i hc
 obtain ⟨rfl,hs,rfl,rfl,rfl⟩:=hc
 split at h
 ·rename_i hk
  split at h
  case isFalse=>cases h
  rename_i hz
  injection h with h; subst h
  subst hk
  exact ⟨nAn,p43 m _ _ true _ _ hs fun _=>hz⟩
 ·rename_i hk
  injection h with h; subst h
  obtain rfl:_ = false:=by simpa using hk
  exact ⟨nAn,p43 m _ _ false _ _ hs fun h=>(by cases h)⟩
theorem c43 {p:PkI} {l:List (FuncId × Spec)} (h:smP p = true):tbl ((43,s43) :: l) 43 [pkA p] = some (.bool (fmP p),[]):=by
 rw [tbl_hit]
 simp only [smP,Bool.and_eq_true,decide_eq_true_eq] at h
 obtain ⟨h1,h2⟩:=h
 obtain ⟨src,ack,next,f⟩:=p
 simp only at h1 h2
 cases ack with
 | true =>
  simp only [if_true,decide_eq_true_eq] at h2
  subst h2
  simp only [pkA,zF,s43,fmP]
  simp [h1]
 | false =>
  simp only [Bool.false_eq_true,if_false,decide_eq_true_eq] at h2
  obtain ⟨fs,q,kd,rf,tb,ky,ev,vs⟩:=f
  simp only [zF,FcI.mk.injEq,true_and] at h2
  obtain ⟨rfl,rfl,rfl,rfl,rfl,rfl⟩:=h2
  simp only [pkA,s43,fmP]
  simp [h1]
theorem take_pkA {l:List PkI} {i:Nat} {p:PkI} (h:l[i]? = some p):takeAt PI 35 (pksL l) i 0 = some (pkA p):=by
 simp only [takeAt,List.getElem?_map,h,Option.map_some,takeA,agg35,size35]
 rfl
theorem p19 (m:Int) (ps:List PkI) (hl:ps.length≤2000000) (h:ps.all smP = true):PureOk PI (GI m) XO (tbl [(43,s43)]) (itbl []) (a19 ps) [] 19 [.agg [.sl 11 (pksL ps) .no]] (.int .i64 (if ps.length≤1024∧ps.all fmP = true then 0 else 1),[]):=by
 constructor
 rw [w19]
 rw [pksL_len]
 refine ⟨fun h1=>⟨?_⟩,fun h1=>⟨⟨0,⟨rfl⟩,⟨rfl⟩,⟨Nat.zero_le _,rfl⟩,trivial⟩,fun x hx=>⟨fun hlt=>?_,fun hge=>?_⟩⟩⟩
 ·have h1:=of_decide_eq_true h1
  rw [if_neg (by omega)]
 ·have hlt:=of_decide_eq_true hlt
  have hxl:x < ps.length:=by omega
  have hs:=List.all_eq_true.1 h _ (List.getElem_mem hxl)
  refine ⟨⟨by omega,hlt⟩,_,_,_,_,_,_,_,_,_,_,_,by rw [Int.toNat_natCast]; exact take_pkA (List.getElem?_eq_getElem hxl),_,⟨c43 hs⟩,fun hb=>⟨x + 1,⟨by rw [wrapN (by omega)]⟩,⟨rfl⟩,⟨hxl,?_⟩,by omega⟩,fun hb=>⟨?_⟩⟩
  ·rw [List.take_succ_eq_append_getElem hxl,List.all_append,hx.2]
   simp [hb]
  ·rw [if_neg]
   intro hf
   have:=List.all_eq_true.1 hf.2 _ (List.getElem_mem hxl)
   rw [hb] at this; cases this
 ·have hge:=of_decide_eq_false hge
  have h1:=of_decide_eq_false h1
  have:=hx.2
  rw [List.take_of_length_le (by omega)] at this
  exact ⟨by rw [if_pos ⟨by omega,this⟩]⟩
theorem o19 (m:Int):SpecOk PI (GI m) 19 s19:=spec_of (X:=XO) (m:=[]) mixedI (tbl_cons (o43 m) tbl_nil) itbl_nil fun args r h=>by
 unfold s19 at h
 split at h
 case h_2=>cases h
 split at h
 case isFalse=>cases h
 rename_i hc
 obtain ⟨rfl,hl⟩:=hc
 split at h
 case h_2=>cases h
 rename_i ps hu
 obtain rfl:_ = pksL ps:=unL_inv unQ_inv hu
 split at h
 case isFalse=>cases h
 rename_i hk
 injection h with h; subst h
 rw [List.length_map] at hl
 exact ⟨_,p19 m ps hl hk⟩
def rotA (P:Arr) (k:Nat):Arr:=P.drop k ++ P.take k
abbrev t6:List (FuncId × Spec):=[(7,s7),(17,s17),(18,fun args=>s18 (args.map wk1)),(10,s10w),(13,s13),(19,fun args=>s19 (args.map wk1))]
abbrev pksT (P:Arr) (o:Own):AV:=.sl 11 (pksL (seL P)) o
abbrev rcB (P:Arr):Option (List AV):=some [.sl 3 (bxsL (allS P)) .no]
abbrev shT:Sh × Option TypeId:=(.val (.one (.is (.bool true))),none)
def XO6 (l:List Int):Shapes:=fun f=>match f with
 | 7 | 13=>some shT
 | 17=>some (.val (.one (.sl 11 (.tok 0))),some 35)
 | 18=>some (.tup [.agg [.is (.sl 3 (bxsL (allS (numP l))) .no)],.one (.is (.int .i64 (cntS (numP l)))),.one (.is (.bool true))],none)
 | 10=>some (.tup [.agg [.is (.sl 3 (bxsL (allS (numP l))) .no)],.one (.is (.bool false)),.agg [.is (.str appN),.is (.bool true),.int .i64,.is (.str []),.is (.int .i64 0),.is (.int .i64 0),.is (.int .i64 0),.is (.str []),.is (.str []),.is (.int .i64 0),.is (.sl 3 [] .no)],.one (.is (.int .i64 0))],none)
 | 19=>some (.val (.one (.is (.int .i64 0))),none)
 | _=>none
def a6 (l:List Int) (turn:Int):Anns:=⟨fun k=>match k with
 | 8=>some { α:=Nat,slots:=[0,1,5,6,7],nb:=0,vals:=fun n=>[.sl 1 (intsA l) .no,.int .i64 turn,pksT (numP l) (.tok 0),pksT ((numP l).reverse.take n) (.tok 1),.int .i64 ((l.length:Int) - 1 - n)],sS:=fun n=>⟨[],[(l.length,35),(((numP l).reverse.take n).length,35)]⟩,I:=fun n=>n≤l.length,μ:=fun n=>l.length - n,mint:=[(6,35)] }
 | 1000013=>some { α:=Unit,slots:=[1,5,6,8,9,10,11,12,13],nb:=2,vals:=fun _=>[.int .i64 turn,pksT (numP l) (.tok 0),pksT (numP l).reverse (.tok 1),.ptr 0 0,.int .i64 (cntS (numP l)),.bool true,.ptr 1 0,.int .i64 (cntS (numP l)),.bool true],sS:=fun _=>⟨[rcB (numP l),rcB (numP l)],[(l.length,35),(l.length,35)]⟩,I:=fun _=>True,μ:=fun _=>0,keep:=some 2 }
 | 1000014=>some { α:=Unit,slots:=[1,5,8,9,10,11,12,13,14,15,16],nb:=3,vals:=fun _=>[.int .i64 turn,pksT (numP l) (.tok 0),.ptr 0 0,.int .i64 (cntS (numP l)),.bool true,.ptr 1 0,.int .i64 (cntS (numP l)),.bool true,.ptr 2 0,.int .i64 (cntS (numP l)),.bool true],sS:=fun _=>⟨[rcB (numP l),rcB (numP l),rcB (numP l)],[(l.length,35),(l.length + l.length,35)]⟩,I:=fun _=>True,μ:=fun _=>0,keep:=some 2 }
 | _=>none,nA⟩
theorem numP_ok {l:List Int} (h:l.length≤60):OkPs (numP l):=⟨by rw [numP_len]; omega,fun p hp=>by
 obtain ⟨x,_,rfl⟩:=List.mem_map.1 hp
 exact ⟨.inl rfl,numN_rng x⟩⟩
theorem allS_congr {ps qs:Arr} (hp:OkPs ps) (hq:OkPs qs) (h:∀ p,p ∈ ps ↔ p ∈ qs):allS ps = allS qs:=((can_all hp).congr h).ext (can_all hq)
theorem ok_congr {ps qs:Arr} (hp:OkPs ps) (h:∀ p,p ∈ ps ↔ p ∈ qs) (hl:qs.length≤200):OkPs qs:=⟨hl,fun p hq=>hp.all p ((h p).2 hq)⟩
theorem mem_rot (P:Arr) (k:Nat) (p:List UInt8 × Int):p ∈ P ↔ p ∈ rotA P k:=by
 unfold rotA
 rw [List.mem_append]
 conv=>lhs; rw [← List.take_append_drop k P,List.mem_append]
 exact Or.comm
theorem c18x {P ps:Arr} (hP:OkPs P) (h:∀ p,p ∈ P ↔ p ∈ ps) (hl:ps.length≤200) {o:Own} {l:List (FuncId × Spec)}:tbl ((18,fun args=>s18 (args.map wk1)) :: l) 18 [.agg [.sl 0 [] o],.sl 11 (pksL (seL ps)) .no] = some (.tup [.agg [.sl 3 (bxsL (allS P)) .no],.int .i64 (cntS P),.bool true],[]):=by
 have hk:=ok_congr hP h hl
 rw [tbl_hit,allS_congr hP hk h,cnt_congr h]
 have hu:unL unS (pksL (seL ps)) = some ps:=by
  rw [pksL,seL,List.map_map]
  exact unL_map (g:=fun p=>pkA (sentP p)) unS_ok ps
 cases ps with
 | nil=>rfl
 | cons p ps =>
  show s18 [.agg [.sl 3 [] .no],.sl 11 (pksL (seL (p :: ps))) .no] = _
  have h2:=okPs_iff.2 hk
  simp only [s18,hu,h2,true_or,and_self,if_true]
theorem c13x {r:List BxI} (h:RcvP r) {l:List (FuncId × Spec)}:tbl ((13,s13) :: l) 13 [.agg [.sl 3 (bxsL r) .no],.agg [.sl 3 (bxsL r) .no]] = some (.bool true,[]):=by
 rw [tbl_hit]
 have h1:r.length≤140737488351232:=by have:=h.len; omega
 have h2:(r.all fun b=>decide (b.ahead.length≤140737488351232)) = true:=List.all_eq_true.2 fun b hb=>by
  have:=(h.box b hb).len
  simp; omega
 simp only [s13,and_self,if_true,unBs_ok]
 rw [if_pos ⟨h1,h2⟩]; simp
theorem one_box {P:Arr} (h:OkPs P) (ha:∀ p ∈ P,p.1 = appN) (hne:P ≠ []):∃ b,allS P = [b]∧b.src = appN∧1≤b.next∧b.next≤61:=by
 have hc:=can_all h
 have hsrc:∀ b ∈ allS P,b.src = appN:=fun b hb=>by
  obtain ⟨n,hn⟩:=(hc.src b.src).1 ⟨b,hb,rfl⟩
  exact ha _ hn
 obtain ⟨p,hp⟩:=List.exists_mem_of_ne_nil P hne
 obtain ⟨b,hb,_⟩:=(hc.src p.1).2 ⟨p.2,hp⟩
 have hone:allS P = [b]:=by
  cases hr:allS P with
  | nil=>rw [hr] at hb; cases hb
  | cons c r =>
   cases r with
   | nil =>
    rw [hr] at hb
    have:b = c:=by simpa using hb
    rw [this]
   | cons d r =>
    have hp2:=hc.asc
    rw [hr] at hp2 hsrc
    have hlt:c.src < d.src:=(List.pairwise_cons.1 hp2).1 d (by simp)
    rw [hsrc c (by simp),hsrc d (by simp)] at hlt
    exact absurd hlt (List.lt_irrefl _)
 refine ⟨b,hone,hsrc b hb,(hc.box b hb).lo,?_⟩
 have hB:=hc.box b hb
 by_cases h61:b.next≤61
 ·exact h61
 ·have:=hB.seen 61 (by omega) (by omega)
  have:=(h.all _ this).2.2
  simp only at this
  omega
theorem c10x {P:Arr} (h:OkPs P) {i:Nat} (hi:i < P.length) (ha:∀ p ∈ P,p.1 = appN) {b:BxI} (hb:allS P = [b]) {l:List (FuncId × Spec)} :
  tbl ((10,s10w) :: l) 10 [.agg [.sl 3 (bxsL (allS P)) .no],pkA (sentP P[i])] = some (.tup [.agg [.sl 3 (bxsL (allS P)) .no],.bool false,.agg [.str appN,.bool true,.int .i64 b.next,.str [],.int .i64 0,.int .i64 0,.int .i64 0,.str [],.str [],.int .i64 0,.sl 3 [] .no],.int .i64 0],[]):=by
 have hp:=h.all _ (List.getElem_mem hi)
 have hsrc:=ha _ (List.getElem_mem hi)
 have hmem:P[i] ∈ P:=List.getElem_mem hi
 have hc:=can_all h
 have hR:RcvP (allS P):=allS_ok _ _ rcv_nil
 obtain ⟨r',nx,h1,h2,b',hb',hs',hn'⟩:=can_step (s:=(P[i]).1) (n:=(P[i]).2) hc (by rw [hsrc]; exact name_app) hp.2.1 (by unfold maxT; omega) (by have:=bOf_lo hc (P[i]).1; omega) (.inl (by
   have:=can_len hc fun p hp=>(h.all p hp).1
   omega))
 have hr:r' = allS P:=(h2.congr fun p=>⟨fun hp=>by
  rcases List.mem_cons.1 hp with e | hp
  ·rw [e]; exact hmem
  ·exact hp,fun hp=>List.mem_cons_of_mem _ hp⟩).ext hc
 have hd:decide (((P[i]).1,(P[i]).2) ∉ P) = false:=by simp [hmem]
 rw [hd,hr] at h1
 rw [hr,hb] at hb'
 have e:b' = b:=by simpa using hb'
 subst e
 rw [c10o hR (by rw [hsrc]; simp),h1,← hn',hsrc]
 rfl
theorem c19x {P:Arr} (h:OkPs P) (ha:∀ p ∈ P,p.1 = appN) {n:Int} (h1:1≤n) (h2:n≤61) {l:List (FuncId × Spec)}:tbl ((19,fun args=>s19 (args.map wk1)) :: l) 19 [.agg [.sl 11 (pksL (seL P) ++ [.agg [.str appN,.bool true,.int .i64 n,.str [],.int .i64 0,.int .i64 0,.int .i64 0,.str [],.str [],.int .i64 0,.sl 3 [] .no]]) .no]] = some (.int .i64 0,[]):=by
 rw [tbl_hit]
 have e:pksL (seL P) ++ [.agg [.str appN,.bool true,.int .i64 n,.str [],.int .i64 0,.int .i64 0,.int .i64 0,.str [],.str [],.int .i64 0,.sl 3 [] .no]] = pksL (seL P ++ [ackP2 appN n]):=by simp only [pksL,List.map_append,List.map_cons,List.map_nil]; rfl
 rw [e]
 have hw:([AV.agg [AV.sl 11 (pksL (seL P ++ [ackP2 appN n])) .no]]).map wk1 = [.agg [.sl 11 (pksL (seL P ++ [ackP2 appN n])) .no]]:=by
  cases P with
  | nil=>rfl
  | cons p P=>rfl
 show s19 (([AV.agg [AV.sl 11 (pksL (seL P ++ [ackP2 appN n])) .no]]).map wk1) = _
 rw [hw]
 have hl:=h.len
 have hlen:(seL P ++ [ackP2 appN n]).length≤1024:=by simp [seL]; omega
 have hsm:(seL P ++ [ackP2 appN n]).all smP = true:=by
  rw [List.all_append,Bool.and_eq_true]
  refine ⟨List.all_eq_true.2 fun q hq=>?_,?_⟩
  ·obtain ⟨p,hp,rfl⟩:=List.mem_map.1 hq
   have:=ha p hp
   obtain ⟨s,k⟩:=p
   simp only at this
   subst this
   simp [smP,sentP,zF]
  ·simp [smP,ackP2,zF]
 have hfm:(seL P ++ [ackP2 appN n]).all fmP = true:=by
  rw [List.all_append,Bool.and_eq_true]
  refine ⟨List.all_eq_true.2 fun q hq=>?_,?_⟩
  ·obtain ⟨p,hp,rfl⟩:=List.mem_map.1 hq
   have:=ha p hp
   obtain ⟨s,k⟩:=p
   simp only at this
   subst this
   have:=name_app
   simp [fmP,sentP,zF,this]
  ·have:=name_app
   simp [fmP,ackP2,zF,this]
   omega
 simp only [s19]
 rw [if_pos ⟨trivial,by rw [pksL_len]; omega⟩,show unL unQ (pksL (seL P ++ [ackP2 appN n])) = some (seL P ++ [ackP2 appN n]) from unL_map unQ_ok _]
 simp only
 rw [if_pos hsm,if_pos ⟨hlen,hfm⟩]
end Go.Abs
