/- Own texts, part 7. -/
import Derived.Test.YtfcdefnkhkijaaaGreatDoorPart6
import Derived.Lib.IndexEntry
import Derived.Laws.BitsLemmas
import Derived.Test.YtfcdefnkhkijaaaGreatDoorPart5
import Derived.Test.YtfcdefnkhkijaaaGreatDoorPart3

namespace Go.Abs.Lx
open Go.Proofs L8
theorem p96 (m:Int) (bs:List UInt8) (a:Nat) (ha:a < bs.length) (hl:bs.length≤1000000) (hd:noSkip (bs.getD a 0) = true):PureOk PQ (GQ m) XR (tbl [(123,s123t),(140,s140),(141,s141),(142,s142),(143,s143)]) (itbl []) ⟨nA,nA⟩ [] 96 [bytesA bs,.int .i64 a] (tokR (bs.drop a) a,[]):=by
 constructor
 rw [w96]; unfold w96c4 w96c3 w96c2 w96c1 I6
 have hct:bs.drop a = bs.getD a 0 :: bs.drop (a + 1):=by
  rw [List.drop_eq_getElem_cons ha]; simp [ha]
 have t33:tbl [(123,s123t),(140,s140),(141,s141),(142,s142),(143,s143)] 123 [bytesA bs,.int .i64 a] = some (.int .i64 (wl (bs.drop a)),[]):=by rw [tbl_hit]; exact sAt_eq (by omega) hl ha
 have t44:∀ n:Int,tbl [(123,s123t),(140,s140),(141,s141),(142,s142),(143,s143)] 140 [.int .u8 n] = some (.bool (decide (48≤n∧n≤57)),[]):=fun n=>by rw [tbl_miss (fun h=>absurd h (by decide)),tbl_hit]; rfl
 have t45:digitB (bs.getD a 0) = true→tbl [(123,s123t),(140,s140),(141,s141),(142,s142),(143,s143)] 141 [bytesA bs,.int .i64 a] = some (tokR (bs.drop a) a,[]):=fun h=>by
  rw [tbl_miss (fun h=>absurd h (by decide)),tbl_miss (fun h=>absurd h (by decide)),tbl_hit]; exact sAt_eq (by omega) hl ⟨ha,h⟩
 have t46:bs.getD a 0 = 34→tbl [(123,s123t),(140,s140),(141,s141),(142,s142),(143,s143)] 142 [bytesA bs,.int .i64 a] = some (tokR (bs.drop a) a,[]):=fun h=>by
  rw [tbl_miss (fun h=>absurd h (by decide)),tbl_miss (fun h=>absurd h (by decide)),tbl_miss (fun h=>absurd h (by decide)),tbl_hit]; exact sAt_eq (by omega) hl ⟨ha,h⟩
 have t47:tbl [(123,s123t),(140,s140),(141,s141),(142,s142),(143,s143)] 143 [bytesA bs,.int .i64 a] = some (.int .i64 (signLen (bs.drop a)),[]):=by
  rw [tbl_miss (fun h=>absurd h (by decide)),tbl_miss (fun h=>absurd h (by decide)),tbl_miss (fun h=>absurd h (by decide)),tbl_miss (fun h=>absurd h (by decide)),tbl_hit]; exact sAt_eq (by omega) hl ha
 simp only [callIs_iff,t33,t47,retIs_iff,take_u8_iff agg5 size5,Option.some.injEq,Prod.mk.injEq,AV.bool.injEq,AV.int.injEq,AV.tup.injEq,AV.agg.injEq,AV.str.injEq,List.cons.injEq,and_true,true_and,decide_eq_true_eq,decide_eq_false_iff_not,bytesL_length,Int.toNat_natCast,exists_eq_left',and_assoc,exists_and_left,beq_iff_eq,beq_eq_false_iff_ne,ne_eq,gt_iff_lt,true_or]
 simp only [noSkip,Bool.not_eq_true',Bool.or_eq_false_iff] at hd
 obtain ⟨hnb,hn35⟩:=hd
 have hb:¬ blankB (bs.getD a 0) = true:=by rw [hnb]; decide
 have h35:¬ (bs.getD a 0 == 35) = true:=by rw [hn35]; decide
 have htl:(bs.drop (a + 1)).length = bs.length - (a + 1):=by simp
 have hwl:wl (bs.drop a) = if letterB (bs.getD a 0) then 1 + ((bs.drop (a + 1)).takeWhile innerB).length else 0:=by rw [hct]; rfl
 have hwle:=wl_le (bs.drop a)
 rw [List.length_drop] at hwle
 have hdg:digitB (bs.getD a 0) = true ↔ 48≤((bs.getD a 0).toNat:Int)∧((bs.getD a 0).toNat:Int)≤57:=by rw [digitB_iff]; omega
 have h34:bs.getD a 0 = 34 ↔ ((bs.getD a 0).toNat:Int) = 34:=by rw [← UInt8.toNat_inj]; show (bs.getD a 0).toNat = 34 ↔ _; omega
 have hsl:signLen (bs.drop a) = if eqSgB (bs.getD a 0) && ((bs.drop (a + 1)).head?.getD 0 == 61) then 2 else if signB (bs.getD a 0) then 1 else 0:=by rw [hct]; rfl
 have hword:letterB (bs.getD a 0) = true→piece (bs.drop a) = (1,wl (bs.drop a),if 24 < wl (bs.drop a) then 2 else 0):=fun h=>by
  rw [hwl,if_pos h,hct]
  simp only [piece]; rw [if_neg hb,if_neg h35,if_pos h]
 have hletter:0 < wl (bs.drop a)→letterB (bs.getD a 0) = true:=fun h=>by
  cases hh:letterB (bs.getD a 0) with
  | true=>rfl
  | false=>rw [hwl,hh] at h; simp at h
 refine ⟨fun h24=>?_,fun h24=>⟨fun h0=>?_,fun h0=>⟨by omega,by omega,ha,fun hdig=>?_,fun hdig=>⟨by omega,by omega,ha,fun hq=>?_,fun hq=>?_⟩⟩⟩⟩
 ·have hp:=hword (hletter (by omega))
  rw [if_pos (by omega)] at hp
  have e1:tokTk (bs.drop a) a = ⟨0,[],0⟩:=by simp [tokTk,hp]
  have e2:tokN (bs.drop a) = wl (bs.drop a):=by simp [tokN,hp]
  rw [e1,e2,hp]
  exact ⟨rfl,rfl,rfl,rfl,rfl⟩
 ·have hp:=hword (hletter (by omega))
  rw [if_neg (by omega)] at hp
  have hw:IntKind.i64.wrap ((a:Int) + wl (bs.drop a)) = ((a + wl (bs.drop a):Nat):Int):=by rw [wrap64_in (by omega) (by omega)]; omega
  rw [hw]
  simp only [Int.toNat_natCast]
  have e1:tokTk (bs.drop a) a = ⟨1,(bs.drop a).take (wl (bs.drop a)),a⟩:=by simp [tokTk,txtOf,hp]
  have e2:tokN (bs.drop a) = wl (bs.drop a):=by simp [tokN,hp]
  refine ⟨by omega,by omega,by omega,by omega,_,by rw [drop_take_bytes,List.drop_take,Nat.add_sub_cancel_left]; exact mapByte _,?_⟩
  rw [e1,e2,hp]
  exact ⟨rfl,rfl,rfl,rfl,rfl⟩
 ·exact ⟨_,_,_,_,_,t45 (hdg.2 hdig),rfl,rfl,rfl,rfl,rfl⟩
 ·exact ⟨_,_,_,_,_,t46 (h34.2 hq),rfl,rfl,rfl,rfl,rfl⟩
 ·have hnl:¬ letterB (bs.getD a 0) = true:=fun h=>by rw [hwl,if_pos h] at h0; omega
  have hnd:¬ digitB (bs.getD a 0) = true:=fun h=>hdig (hdg.1 h)
  have hnq:¬ (bs.getD a 0 == 34) = true:=fun h=>hq (h34.1 (by simpa using h))
  have hpiece:piece (bs.drop a) = if eqSgB (bs.getD a 0) && ((bs.drop (a + 1)).head?.getD 0 == 61) then (5,2,0) else if signB (bs.getD a 0) then (5,1,0) else (-1,1,80):=by
   rw [hct]
   simp only [piece]; rw [if_neg hb,if_neg h35,if_neg hnl,if_neg hnd,if_neg hnq]
  have okk:∀ n:Nat,piece (bs.drop a) = (5,n,0)→signLen (bs.drop a) = (n:Int)→a + n≤bs.length→(0:Int)≤a∧0≤IntKind.i64.wrap ((a:Int) + signLen (bs.drop a))∧a≤(IntKind.i64.wrap ((a:Int) + signLen (bs.drop a))).toNat∧(IntKind.i64.wrap ((a:Int) + signLen (bs.drop a))).toNat≤bs.length∧∃ l,List.mapM byteOf (((bytesL bs).take (IntKind.i64.wrap ((a:Int) + signLen (bs.drop a))).toNat).drop a) = some l∧5 = (tokTk (bs.drop a) a).kind∧l = (tokTk (bs.drop a) a).text∧(a:Int) = ((tokTk (bs.drop a) a).at_:Int)∧signLen (bs.drop a) = tokN (bs.drop a)∧0 = (piece (bs.drop a)).2.2:=fun n hp hs hle=>by
   have hw:IntKind.i64.wrap ((a:Int) + (n:Int)) = ((a + n:Nat):Int):=by rw [wrap64_in (by omega) (by omega)]; omega
   rw [hs,hw]
   simp only [Int.toNat_natCast]
   have e1:tokTk (bs.drop a) a = ⟨5,(bs.drop a).take n,a⟩:=by simp [tokTk,txtOf,hp]
   have e2:tokN (bs.drop a) = n:=by simp [tokN,hp]
   refine ⟨by omega,by omega,by omega,by omega,_,by rw [drop_take_bytes,List.drop_take,Nat.add_sub_cancel_left]; exact mapByte _,?_⟩
   rw [e1,e2,hp]
   exact ⟨rfl,rfl,rfl,rfl,rfl⟩
  by_cases he:(eqSgB (bs.getD a 0) && ((bs.drop (a + 1)).head?.getD 0 == 61)) = true
  ·rw [if_pos he] at hpiece hsl
   refine ⟨fun h=>absurd h (by rw [hsl]; decide),fun _=>okk 2 hpiece hsl ?_⟩
   simp only [Bool.and_eq_true,beq_iff_eq] at he
   have:bs.drop (a + 1) ≠ []:=by intro e; rw [e] at he; exact absurd he.2 (by decide)
   have:=List.length_pos_iff.2 this
   omega
  ·rw [if_neg he] at hpiece hsl
   by_cases hsg:signB (bs.getD a 0) = true
   ·rw [if_pos hsg] at hpiece hsl
    exact ⟨fun h=>absurd h (by rw [hsl]; decide),fun _=>okk 1 hpiece hsl (by omega)⟩
   ·rw [if_neg hsg] at hpiece hsl
    refine ⟨fun _=>?_,fun h=>absurd hsl h⟩
    have e1:tokTk (bs.drop a) a = ⟨0,[],0⟩:=by simp [tokTk,hpiece]
    have e2:tokN (bs.drop a) = 0:=by simp [tokN,hpiece]
    rw [e1,e2,hpiece]
    exact ⟨rfl,rfl,rfl,rfl,rfl⟩
end Go.Abs.Lx
namespace Go.Abs.Lx
open Go.Proofs L8
theorem skip_true:∀ (t:List UInt8),skipL true t = (t.takeWhile (· != 10)).length + skipL false (t.drop (t.takeWhile (· != 10)).length)
 | []=>by simp [skipL]
 | c :: t=>by
  by_cases h:c = 10
  ·subst h
   have hb:blankB 10 = true:=rfl
   simp [skipL,hb]
  ·have hc:(c != 10) = true:=by simpa using h
   have ih:=skip_true t
   rw [List.takeWhile_cons,if_pos hc,List.length_cons,List.drop_succ_cons]
   simp only [skipL,hc,Bool.and_self,Bool.true_or,if_true]
   rw [ih]
   omega
theorem scan_skip:∀ (n:Nat) (l:List UInt8) (a:Nat) (adj:Bool),l.length≤n→scan l a adj = scan (l.drop (skipL false l)) (a + skipL false l) (adj && decide (skipL false l = 0))∧(∀ c u,l.drop (skipL false l) = c :: u→noSkip c = true)∧skipL false l≤l.length:=by
 intro n
 induction n with
 | zero =>
  intro l a adj hl
  have:l = []:=List.length_eq_zero_iff.1 (by omega)
  subst this
  refine ⟨by simp [skipL],fun c u h=>by simp at h,by simp [skipL]⟩
 | succ n ih =>
  intro l a adj hl
  cases l with
  | nil=>refine ⟨by simp [skipL],fun c u h=>by simp at h,by simp [skipL]⟩
  | cons c t =>
   simp only [List.length_cons] at hl
   by_cases hb:blankB c = true
   ·have h35:¬ c = 35:=by rintro rfl; revert hb; decide
    have h35':(c == 35) = false:=by simpa using h35
    have hs:skipL false (c :: t) = 1 + skipL false t:=by
     simp only [skipL,hb,h35',Bool.false_and,Bool.false_or,Bool.or_false,Bool.and_false,if_true]
    have hp:piece (c :: t) = (0,1,0):=by simp only [piece]; rw [if_pos hb]
    have hst:=scan_step (l:=c :: t) (by simp) a adj
    have h1:tkOf (c :: t) a = []:=by simp [tkOf,hp]
    have h2:pbOf (c :: t) a adj = []:=by simp [pbOf,hp]
    have h3:adjOf (c :: t) = false:=by simp [adjOf,hp]
    rw [h1,h2,h3,hp] at hst
    simp only [List.nil_append,List.drop_succ_cons,List.drop_zero] at hst
    obtain ⟨k1,k2,k3⟩:=ih t (a + 1) false (by omega)
    rw [hs]
    refine ⟨?_,?_,by simp; omega⟩
    ·rw [hst,k1,Nat.add_comm 1,List.drop_succ_cons]
     simp only [Bool.false_and,Nat.succ_ne_zero,decide_false,Bool.and_false]
     rw [show a + 1 + skipL false t = a + (skipL false t + 1) by omega]
    ·intro x u hu
     rw [Nat.add_comm 1,List.drop_succ_cons] at hu
     exact k2 x u hu
   ·by_cases h35:c = 35
    ·subst h35
     have hs:skipL false (35 :: t) = 1 + skipL true t:=by
      simp only [skipL]; rw [if_pos (by rfl)]; rfl
     have hp:piece (35 :: t) = (0,1 + (t.takeWhile (· != 10)).length,0):=by simp only [piece]; rw [if_neg (by decide),if_pos (by rfl)]
     have hst:=scan_step (l:=35 :: t) (by simp) a adj
     have h1:tkOf (35 :: t) a = []:=by simp [tkOf,hp]
     have h2:pbOf (35 :: t) a adj = []:=by simp [pbOf,hp]
     have h3:adjOf (35 :: t) = false:=by simp [adjOf,hp]
     rw [h1,h2,h3,hp] at hst
     simp only [List.nil_append] at hst
     have hle:=tw_le (p:=(· != 10)) t
     rw [skip_true] at hs
     generalize hk:(t.takeWhile (· != 10)).length = k at *
     rw [Nat.add_comm 1 k,List.drop_succ_cons] at hst
     obtain ⟨k1,k2,k3⟩:=ih (t.drop k) (a + (k + 1)) false (by rw [List.length_drop]; omega)
     rw [List.length_drop] at k3
     generalize hq:skipL false (t.drop k) = q at *
     rw [hs]
     have e:(35 :: t).drop (1 + (k + q)) = (t.drop k).drop q:=by rw [Nat.add_comm 1,List.drop_succ_cons,List.drop_drop]
     refine ⟨?_,?_,by simp; omega⟩
     ·rw [hst,k1,e]
      have:decide (1 + (k + q) = 0) = false:=by simp
      rw [this,Bool.and_false,Bool.false_and,show a + (k + 1) + q = a + (1 + (k + q)) by omega]
     ·intro x u hu
      rw [e] at hu
      exact k2 x u hu
    ·have h35':(c == 35) = false:=by simpa using h35
     have hb':blankB c = false:=by simpa using hb
     have hs:skipL false (c :: t) = 0:=by simp [skipL,hb',h35]
     rw [hs]
     refine ⟨by simp,fun x u h=>?_,by simp⟩
     simp only [List.drop_zero,List.cons.injEq] at h
     rw [← h.1,noSkip,hb',h35']; rfl
end Go.Abs.Lx
namespace Go.Abs.Lx
open Go.Proofs L8
theorem tokN_pos {l:List UInt8} (hl:l ≠ []):(0 < tokN l ↔ (piece l).1 ≠ -1):=by
 have:=piece_pos' hl
 by_cases h:(piece l).1 = -1
 ·simp [tokN,h]
 ·simp [tokN,h]; omega
theorem un_err {l:List UInt8} (hl:l ≠ []) (h:(piece l).1 = -1):(piece l).2.1 = 1∧(piece l).2.2 = 80:=by
 cases l with
 | nil=>exact absurd rfl hl
 | cons c t=>exact piece_un h
theorem tok_ne {l:List UInt8} {c:UInt8} {t:List UInt8} (h:l = c :: t) (hn:noSkip c = true):(piece l).1 ≠ 0:=by
 subst h
 simp only [noSkip,Bool.not_eq_true',Bool.or_eq_false_iff] at hn
 simp only [piece,hn.1,hn.2]
 repeat' split
 all_goals simp_all
theorem inv13_next {bs:List UInt8} {x:X47} (hx:Inv47 bs x) (hp:x.p < bs.length) :
  Inv47 bs ⟨(adjT bs x).l,(adjT bs x).b,x.p + (piece (bs.drop x.p)).2.1 + skipL false (bs.drop (x.p + (piece (bs.drop x.p)).2.1)),decide ((piece (bs.drop x.p)).1 = -1) && decide (skipL false (bs.drop (x.p + (piece (bs.drop x.p)).2.1)) = 0)⟩:=by
 obtain ⟨h1,h2,h3,h4,h5,h6⟩:=hx
 have hs:=scan_step (drop_ne hp) x.p x.adj
 have hle:=piece_le (bs.drop x.p)
 have hps:=piece_pos' (drop_ne hp)
 rw [List.length_drop] at hle
 rw [List.drop_drop] at hs
 obtain ⟨k1,k2,k3⟩:=scan_skip _ (bs.drop (x.p + (piece (bs.drop x.p)).2.1)) (x.p + (piece (bs.drop x.p)).2.1) (adjOf (bs.drop x.p)) (Nat.le_refl _)
 rw [k1,List.drop_drop] at hs
 rw [List.length_drop] at k3
 have htk:(tkOf (bs.drop x.p) x.p).length≤1:=by unfold tkOf; split <;> simp
 refine ⟨h1,by simp only [adjT,List.length_append]; omega,by simp only; omega,?_,?_,fun hlt=>?_⟩
 ·rw [← h4,hs]; simp only [adjT,List.append_assoc,adjOf]
 ·rw [← h5,hs]; simp only [adjT,List.append_assoc,adjOf]
 ·simp only at hlt ⊢
  rw [List.drop_drop] at k2
  refine k2 _ (bs.drop (x.p + (piece (bs.drop x.p)).2.1 + skipL false (bs.drop (x.p + (piece (bs.drop x.p)).2.1)) + 1)) ?_
  rw [List.drop_eq_getElem_cons hlt]
  simp [hlt]
theorem p47 (m:Int) (bs:List UInt8):LaxOk PQ (GQ m) XR (tbl [(95,s95),(96,s96)]) (itbl []) (a47 bs) [] 47 [bytesA bs] (r12 bs):=by
 constructor
 rw [w47]; unfold w47c18 w47c10 w47c8 w47c19 w47c4 w47c17 w47c13 w47c16 w47c7 w47c3 w47c11 w47c9 w47c2 w47c14 w47c12 w47c1 w47c5 w47c6 w47c15 I6
 have t30:∀ j:Nat,j≤bs.length→bs.length≤16384→tbl [(95,s95),(96,s96)] 95 [bytesA bs,.int .i64 j] = some (.int .i64 ((j + skipL false (bs.drop j):Nat):Int),[]):=fun j hj hl=>by rw [tbl_hit]; exact sAt_eq hj (by omega) trivial
 have t31:∀ j:Nat,isTok bs j→bs.length≤16384→tbl [(95,s95),(96,s96)] 96 [bytesA bs,.int .i64 j] = some (tokR (bs.drop j) j,[]):=fun j hj hl=>by rw [tbl_miss (fun h=>absurd h (by decide)),tbl_hit]; exact sAt_eq (Nat.le_of_lt hj.1) (by omega) hj
 simp only [callIs_iff,List.length_map,valsAre_iff,stIs_iff,retLax_iff,decide_eq_true_eq,decide_eq_false_iff_not,gt_iff_lt,true_or,true_and,and_true,List.cons.injEq,AV.sl.injEq,AV.int.injEq,AV.bool.injEq,AV.str.injEq,Option.some.injEq,Prod.mk.injEq,St.mk.injEq,beq_iff_eq,bne_iff_ne,beq_eq_false_iff_ne,bne_eq_false_iff_eq,ne_eq,and_assoc]
 have lx:∀ {A B C D},A = C→B = D→Lax2 (AV.tup [AV.sl 3 A (.tok 0),AV.sl 2 B (.tok 1),AV.int .i64 0]) (AV.tup [AV.sl 3 C .no,AV.sl 2 D .no,AV.int .i64 0]):=fun h1 h2=>by
  subst h1; subst h2
  simp [Lax2,all2,Lax1,Lax0]
 have fin:∀ x:X47,Inv47 bs x→¬ (x.p:Int) < bs.length→(x.l.length + 1) * 33≤70368744177664∧Lax2 (AV.tup [AV.sl 3 (x.l.map tokA ++ [AV.agg [AV.int .i64 6,AV.str [],AV.int .i64 bs.length]]) (.tok 0),AV.sl 2 ((x.b.take 32).map pbX) (.tok 1),AV.int .i64 0]) (if bs.length≤16384 then AV.tup [AV.sl 3 ((toksX bs).map tokA) .no,AV.sl 2 ((probsL bs).map pbX) .no,AV.int .i64 0] else AV.tup [AV.sl 3 [] .no,AV.sl 2 [] .no,AV.int .i64 2])∧(if bs.length≤16384 then AV.tup [AV.sl 3 ((toksX bs).map tokA) .no,AV.sl 2 ((probsL bs).map pbX) .no,AV.int .i64 0] else AV.tup [AV.sl 3 [] .no,AV.sl 2 [] .no,AV.int .i64 2]).closed2 = true:=fun x hx h=>by
  obtain ⟨h1,h2,h3,h4,h5,h6⟩:=hx
  have hp:x.p = bs.length:=by omega
  have hd:bs.drop x.p = []:=by rw [hp]; simp
  rw [hd,scan_nil] at h4 h5
  simp only [List.append_nil] at h4 h5
  rw [if_pos h1]
  refine ⟨by omega,lx ?_ ?_,rfl⟩
  ·simp only [toksX,List.map_append,List.map_cons,List.map_nil,← h4]; rfl
  ·simp only [probsL,← h5]
 refine ⟨fun h=>?_,fun h=>⟨_,t30 0 (by omega) (by omega),⟨⟨[],[],0 + skipL false (bs.drop 0),false⟩,rfl,rfl,rfl,rfl,rfl,rfl,?_⟩,fun x hx=>⟨fun hadj=>⟨fun hlt=>?_,fin x hx⟩,fun hadj=>⟨fun hlt=>?_,fin x hx⟩⟩⟩⟩
 ·rw [if_neg (by omega)]
  exact ⟨by simp [Lax2,all2,Lax1,Lax0],rfl⟩
 ·obtain ⟨k1,k2,k3⟩:=scan_skip _ bs 0 false (Nat.le_refl _)
  simp only [List.drop_zero,Bool.false_and,Nat.zero_add] at k1 ⊢
  refine ⟨by omega,by simp,by simp only; omega,?_,?_,fun hlt=>?_⟩
  ·simp only [List.nil_append]; rw [← k1]
  ·simp only [List.nil_append]; rw [← k1]
  ·simp only [] at hlt ⊢
   refine k2 _ (bs.drop (skipL false bs + 1)) ?_
   rw [List.drop_eq_getElem_cons hlt]
   simp [hlt]
 ·have hp:x.p < bs.length:=by omega
  have hsm:=hx.small
  have hln:=hx.len
  have hne:=drop_ne hp
  have hct:bs.drop x.p = bs.getD x.p 0 :: bs.drop (x.p + 1):=by
   rw [List.drop_eq_getElem_cons hp]; simp [hp]
  have hpos:=tokN_pos hne
  have i11:Inv11 bs (adjR bs x):=⟨x,hx,hp,rfl⟩
  have pbp:¬ (piece (bs.drop x.p)).2.2 = 0→0 < tokN (bs.drop x.p)→pbOf (bs.drop x.p) x.p x.adj = [⟨x.p,(piece (bs.drop x.p)).2.2⟩]:=fun h1 h2=>by
   simp only [pbOf,if_neg (hpos.1 h2),if_neg h1]
  have pbz:(piece (bs.drop x.p)).2.2 = 0→pbOf (bs.drop x.p) x.p x.adj = []:=fun h=>by
   have hk:(piece (bs.drop x.p)).1 ≠ -1:=fun h2=>by rw [(un_err hne h2).2] at h; cases h
   simp only [pbOf,if_neg hk,if_pos h]
  have pbun:¬ 0 < tokN (bs.drop x.p)→pbOf (bs.drop x.p) x.p x.adj = []:=fun h=>by
   have hk:(piece (bs.drop x.p)).1 = -1:=by
    by_cases h2:(piece (bs.drop x.p)).1 = -1
    ·exact h2
    ·exact absurd (hpos.2 h2) h
   simp only [pbOf,if_pos hk,hadj,if_true]
  have grow:pbOf (bs.drop x.p) x.p x.adj = [⟨x.p,(piece (bs.drop x.p)).2.2⟩]→((x.b.take 32).length < 32→(x.b.take 32).map pbX ++ [AV.agg [AV.int .i64 x.p,AV.int .i64 (piece (bs.drop x.p)).2.2]] = ((adjR bs x).b.take 32).map pbX)∧((x.b.take 32).length < 32→(x.b.take 32).length + 1 = ((adjR bs x).b.take 32).length)∧(¬ (x.b.take 32).length < 32→(x.b.take 32).map pbX = ((adjR bs x).b.take 32).map pbX)∧(¬ (x.b.take 32).length < 32→(x.b.take 32).length = ((adjR bs x).b.take 32).length):=fun h=>by
   simp only [adjR,h,take32]
   refine ⟨fun h=>?_,fun h=>?_,fun h=>?_,fun h=>?_⟩
   ·rw [if_pos h,List.map_append]; rfl
   ·rw [if_pos h,List.length_append]; rfl
   ·rw [if_neg h]
   ·rw [if_neg h]
  have stay:pbOf (bs.drop x.p) x.p x.adj = []→(x.b.take 32).map pbX = ((adjR bs x).b.take 32).map pbX∧(x.b.take 32).length = ((adjR bs x).b.take 32).length:=fun h=>by
   simp only [adjR,h,List.append_nil]; exact ⟨trivial,trivial⟩
  refine ⟨_,_,_,_,_,t31 x.p ⟨hp,hx.tok hp⟩ hsm,fun he=>⟨fun hn=>⟨fun h32=>⟨by omega,adjR bs x,rfl,(grow (pbp he hn)).1 (by omega),rfl,rfl,rfl,rfl,rfl,rfl,rfl,(grow (pbp he hn)).2.1 (by omega),i11,rfl⟩,fun h32=>⟨adjR bs x,rfl,(grow (pbp he hn)).2.2.1 (by omega),rfl,rfl,rfl,rfl,rfl,rfl,rfl,(grow (pbp he hn)).2.2.2 (by omega),i11,rfl⟩⟩,fun hn=>⟨adjR bs x,rfl,(stay (pbun hn)).1,rfl,rfl,rfl,rfl,rfl,rfl,rfl,(stay (pbun hn)).2,i11,rfl⟩⟩,fun he=>⟨adjR bs x,rfl,(stay (pbz he)).1,rfl,rfl,rfl,rfl,rfl,rfl,rfl,(stay (pbz he)).2,i11,rfl⟩,fun x1 hx1 h1p=>?_⟩
  obtain ⟨x0,hx0,hp0,rfl⟩:=hx1.h
  have e0:(adjR bs x0).p = x0.p:=rfl
  have hct0:bs.drop x0.p = bs.getD x0.p 0 :: bs.drop (x0.p + 1):=by
   rw [List.drop_eq_getElem_cons hp0]; simp [hp0]
  have hne0:=drop_ne hp0
  have hk00:(piece (bs.drop x0.p)).1 ≠ 0:=tok_ne hct0 (hx0.tok hp0)
  have hl0:=hx0.len
  have ic:Inv47c bs (adjT bs x0):=⟨x0,hx0,hp0,rfl⟩
  simp only [e0]
  refine ⟨fun he=>⟨?_,adjT bs x0,?_,rfl,rfl,rfl,rfl,rfl,rfl,?_,rfl,ic,rfl⟩,fun he=>⟨adjT bs x0,?_,rfl,rfl,rfl,rfl,rfl,rfl,?_,rfl,ic,rfl⟩,fun x2 hx2 h2p=>?_⟩
  ·show (x0.l.length + 1) * 33≤_; omega
  ·have hk:(piece (bs.drop x0.p)).1 ≠ -1:=fun h2=>by rw [(un_err hne0 h2).2] at he; cases he
   have h1:tkOf (bs.drop x0.p) x0.p = [⟨(piece (bs.drop x0.p)).1,txtOf (bs.drop x0.p),x0.p⟩]:=by simp only [tkOf]; rw [if_pos ⟨hk,he,hk00⟩]
   have h2:tokTk (bs.drop x0.p) x0.p = ⟨(piece (bs.drop x0.p)).1,txtOf (bs.drop x0.p),x0.p⟩:=by
    simp only [tokTk]; rw [if_neg (by rintro (h | h); exact hk h; exact h.1 he)]
   simp only [adjT,h1,h2,List.map_append]
   rfl
  ·have hk:(piece (bs.drop x0.p)).1 ≠ -1:=fun h2=>by rw [(un_err hne0 h2).2] at he; cases he
   have h1:tkOf (bs.drop x0.p) x0.p = [⟨(piece (bs.drop x0.p)).1,txtOf (bs.drop x0.p),x0.p⟩]:=by simp only [tkOf]; rw [if_pos ⟨hk,he,hk00⟩]
   simp only [adjT,h1,List.length_append]
   rfl
  ·have h1:tkOf (bs.drop x0.p) x0.p = []:=by simp only [tkOf]; rw [if_neg (fun h=>he h.2.1)]
   simp only [adjT,h1,List.append_nil]
   rfl
  ·have h1:tkOf (bs.drop x0.p) x0.p = []:=by simp only [tkOf]; rw [if_neg (fun h=>he h.2.1)]
   simp only [adjT,h1,List.append_nil]
   rfl
  ·clear hct0 hne0 hk00 ic
   obtain ⟨x3,hx3,hp3,rfl⟩:=hx2.h
   have e3:(adjT bs x3).p = x3.p:=rfl
   have hne3:=drop_ne hp3
   have hpp:x.p = x3.p:=by
    have h9:(x0.p:Int) = x3.p:=h2p
    have h8:(x.p:Int) = x0.p:=h1p
    omega
   simp only [e3]
   have hnx:=inv13_next hx3 hp3
   have hle:=piece_le (bs.drop x3.p)
   have hps:=piece_pos' hne3
   rw [List.length_drop] at hle
   have hmax:(x3.p:Int) + max (tokN (bs.drop x3.p)) 1 = ((x3.p + (piece (bs.drop x3.p)).2.1:Nat):Int):=by
    by_cases hk:(piece (bs.drop x3.p)).1 = -1
    ·have h9:tokN (bs.drop x3.p) = 0:=by simp [tokN,hk]
     rw [h9,(un_err hne3 hk).1]; rfl
    ·have h9:tokN (bs.drop x3.p) = ((piece (bs.drop x3.p)).2.1:Int):=by simp [tokN,hk]
     rw [h9]; omega
   have hw:IntKind.i64.wrap ((x3.p + (piece (bs.drop x3.p)).2.1:Nat):Int) = ((x3.p + (piece (bs.drop x3.p)).2.1:Nat):Int):=wrap64_in (by omega) (by omega)
   rw [hmax,hw]
   have hzero:tokN (bs.drop x3.p) = 0 ↔ (piece (bs.drop x3.p)).1 = -1:=by
    constructor
    ·intro h; by_cases hk:(piece (bs.drop x3.p)).1 = -1
     ·exact hk
     ·simp only [tokN,if_neg hk] at h; omega
    ·intro h; simp only [tokN,if_pos h]
   refine ⟨_,t30 _ (by omega) hsm,fun hz=>⟨fun hn=>⟨⟨(adjT bs x3).l,(adjT bs x3).b,x3.p + (piece (bs.drop x3.p)).2.1 + skipL false (bs.drop (x3.p + (piece (bs.drop x3.p)).2.1)),decide ((piece (bs.drop x3.p)).1 = -1) && decide (skipL false (bs.drop (x3.p + (piece (bs.drop x3.p)).2.1)) = 0)⟩,rfl,rfl,rfl,?_,rfl,rfl,hnx,?_⟩,fun hn=>⟨⟨(adjT bs x3).l,(adjT bs x3).b,x3.p + (piece (bs.drop x3.p)).2.1 + skipL false (bs.drop (x3.p + (piece (bs.drop x3.p)).2.1)),decide ((piece (bs.drop x3.p)).1 = -1) && decide (skipL false (bs.drop (x3.p + (piece (bs.drop x3.p)).2.1)) = 0)⟩,rfl,rfl,rfl,?_,rfl,rfl,hnx,?_⟩⟩,fun hz=>⟨⟨(adjT bs x3).l,(adjT bs x3).b,x3.p + (piece (bs.drop x3.p)).2.1 + skipL false (bs.drop (x3.p + (piece (bs.drop x3.p)).2.1)),decide ((piece (bs.drop x3.p)).1 = -1) && decide (skipL false (bs.drop (x3.p + (piece (bs.drop x3.p)).2.1)) = 0)⟩,rfl,rfl,rfl,?_,rfl,rfl,hnx,?_⟩⟩
   ·simp only; rw [decide_eq_true (hzero.1 hz),decide_eq_true (by omega)]; rfl
   ·simp only; omega
   ·simp only; rw [decide_eq_false (p:=skipL false _ = 0) (by omega)]; simp
   ·simp only; omega
   ·simp only; rw [decide_eq_false (p:=(piece (bs.drop x3.p)).1 = -1) (fun h=>hz (hzero.2 h))]; rfl
   ·simp only; omega
 ·have hp:x.p < bs.length:=by omega
  have hsm:=hx.small
  have hln:=hx.len
  have hne:=drop_ne hp
  have hct:bs.drop x.p = bs.getD x.p 0 :: bs.drop (x.p + 1):=by
   rw [List.drop_eq_getElem_cons hp]; simp [hp]
  have hpos:=tokN_pos hne
  have i11:Inv11 bs (adjR bs x):=⟨x,hx,hp,rfl⟩
  have pbp:¬ (piece (bs.drop x.p)).2.2 = 0→0 < tokN (bs.drop x.p)→pbOf (bs.drop x.p) x.p x.adj = [⟨x.p,(piece (bs.drop x.p)).2.2⟩]:=fun h1 h2=>by
   simp only [pbOf,if_neg (hpos.1 h2),if_neg h1]
  have pbz:(piece (bs.drop x.p)).2.2 = 0→pbOf (bs.drop x.p) x.p x.adj = []:=fun h=>by
   have hk:(piece (bs.drop x.p)).1 ≠ -1:=fun h2=>by rw [(un_err hne h2).2] at h; cases h
   simp only [pbOf,if_neg hk,if_pos h]
  have pbun:¬ 0 < tokN (bs.drop x.p)→pbOf (bs.drop x.p) x.p x.adj = [⟨x.p,(piece (bs.drop x.p)).2.2⟩]:=fun h=>by
   have hk:(piece (bs.drop x.p)).1 = -1:=by
    by_cases h2:(piece (bs.drop x.p)).1 = -1
    ·exact h2
    ·exact absurd (hpos.2 h2) h
   simp only [pbOf,if_pos hk,hadj,Bool.false_eq_true,if_false,(un_err hne hk).2]
  have grow:pbOf (bs.drop x.p) x.p x.adj = [⟨x.p,(piece (bs.drop x.p)).2.2⟩]→((x.b.take 32).length < 32→(x.b.take 32).map pbX ++ [AV.agg [AV.int .i64 x.p,AV.int .i64 (piece (bs.drop x.p)).2.2]] = ((adjR bs x).b.take 32).map pbX)∧((x.b.take 32).length < 32→(x.b.take 32).length + 1 = ((adjR bs x).b.take 32).length)∧(¬ (x.b.take 32).length < 32→(x.b.take 32).map pbX = ((adjR bs x).b.take 32).map pbX)∧(¬ (x.b.take 32).length < 32→(x.b.take 32).length = ((adjR bs x).b.take 32).length):=fun h=>by
   simp only [adjR,h,take32]
   refine ⟨fun h=>?_,fun h=>?_,fun h=>?_,fun h=>?_⟩
   ·rw [if_pos h,List.map_append]; rfl
   ·rw [if_pos h,List.length_append]; rfl
   ·rw [if_neg h]
   ·rw [if_neg h]
  have stay:pbOf (bs.drop x.p) x.p x.adj = []→(x.b.take 32).map pbX = ((adjR bs x).b.take 32).map pbX∧(x.b.take 32).length = ((adjR bs x).b.take 32).length:=fun h=>by
   simp only [adjR,h,List.append_nil]; exact ⟨trivial,trivial⟩
  refine ⟨_,_,_,_,_,t31 x.p ⟨hp,hx.tok hp⟩ hsm,fun he=>⟨fun hn=>⟨fun h32=>⟨by omega,adjR bs x,rfl,(grow (pbp he hn)).1 (by omega),rfl,rfl,rfl,rfl,rfl,rfl,rfl,(grow (pbp he hn)).2.1 (by omega),i11,rfl⟩,fun h32=>⟨adjR bs x,rfl,(grow (pbp he hn)).2.2.1 (by omega),rfl,rfl,rfl,rfl,rfl,rfl,rfl,(grow (pbp he hn)).2.2.2 (by omega),i11,rfl⟩⟩,fun hn=>⟨fun h32=>⟨by omega,adjR bs x,rfl,(grow (pbun hn)).1 (by omega),rfl,rfl,rfl,rfl,rfl,rfl,rfl,(grow (pbun hn)).2.1 (by omega),i11,rfl⟩,fun h32=>⟨adjR bs x,rfl,(grow (pbun hn)).2.2.1 (by omega),rfl,rfl,rfl,rfl,rfl,rfl,rfl,(grow (pbun hn)).2.2.2 (by omega),i11,rfl⟩⟩⟩,fun he=>⟨adjR bs x,rfl,(stay (pbz he)).1,rfl,rfl,rfl,rfl,rfl,rfl,rfl,(stay (pbz he)).2,i11,rfl⟩,fun x1 hx1 h1p=>?_⟩
  obtain ⟨x0,hx0,hp0,rfl⟩:=hx1.h
  have e0:(adjR bs x0).p = x0.p:=rfl
  have hct0:bs.drop x0.p = bs.getD x0.p 0 :: bs.drop (x0.p + 1):=by
   rw [List.drop_eq_getElem_cons hp0]; simp [hp0]
  have hne0:=drop_ne hp0
  have hk00:(piece (bs.drop x0.p)).1 ≠ 0:=tok_ne hct0 (hx0.tok hp0)
  have hl0:=hx0.len
  have ic:Inv47c bs (adjT bs x0):=⟨x0,hx0,hp0,rfl⟩
  simp only [e0]
  refine ⟨fun he=>⟨?_,adjT bs x0,?_,rfl,rfl,rfl,rfl,rfl,rfl,?_,rfl,ic,rfl⟩,fun he=>⟨adjT bs x0,?_,rfl,rfl,rfl,rfl,rfl,rfl,?_,rfl,ic,rfl⟩,fun x2 hx2 h2p=>?_⟩
  ·show (x0.l.length + 1) * 33≤_; omega
  ·have hk:(piece (bs.drop x0.p)).1 ≠ -1:=fun h2=>by rw [(un_err hne0 h2).2] at he; cases he
   have h1:tkOf (bs.drop x0.p) x0.p = [⟨(piece (bs.drop x0.p)).1,txtOf (bs.drop x0.p),x0.p⟩]:=by simp only [tkOf]; rw [if_pos ⟨hk,he,hk00⟩]
   have h2:tokTk (bs.drop x0.p) x0.p = ⟨(piece (bs.drop x0.p)).1,txtOf (bs.drop x0.p),x0.p⟩:=by
    simp only [tokTk]; rw [if_neg (by rintro (h | h); exact hk h; exact h.1 he)]
   simp only [adjT,h1,h2,List.map_append]
   rfl
  ·have hk:(piece (bs.drop x0.p)).1 ≠ -1:=fun h2=>by rw [(un_err hne0 h2).2] at he; cases he
   have h1:tkOf (bs.drop x0.p) x0.p = [⟨(piece (bs.drop x0.p)).1,txtOf (bs.drop x0.p),x0.p⟩]:=by simp only [tkOf]; rw [if_pos ⟨hk,he,hk00⟩]
   simp only [adjT,h1,List.length_append]
   rfl
  ·have h1:tkOf (bs.drop x0.p) x0.p = []:=by simp only [tkOf]; rw [if_neg (fun h=>he h.2.1)]
   simp only [adjT,h1,List.append_nil]
   rfl
  ·have h1:tkOf (bs.drop x0.p) x0.p = []:=by simp only [tkOf]; rw [if_neg (fun h=>he h.2.1)]
   simp only [adjT,h1,List.append_nil]
   rfl
  ·clear hct0 hne0 hk00 ic
   obtain ⟨x3,hx3,hp3,rfl⟩:=hx2.h
   have e3:(adjT bs x3).p = x3.p:=rfl
   have hne3:=drop_ne hp3
   have hpp:x.p = x3.p:=by
    have h9:(x0.p:Int) = x3.p:=h2p
    have h8:(x.p:Int) = x0.p:=h1p
    omega
   simp only [e3]
   have hnx:=inv13_next hx3 hp3
   have hle:=piece_le (bs.drop x3.p)
   have hps:=piece_pos' hne3
   rw [List.length_drop] at hle
   have hmax:(x3.p:Int) + max (tokN (bs.drop x3.p)) 1 = ((x3.p + (piece (bs.drop x3.p)).2.1:Nat):Int):=by
    by_cases hk:(piece (bs.drop x3.p)).1 = -1
    ·have h9:tokN (bs.drop x3.p) = 0:=by simp [tokN,hk]
     rw [h9,(un_err hne3 hk).1]; rfl
    ·have h9:tokN (bs.drop x3.p) = ((piece (bs.drop x3.p)).2.1:Int):=by simp [tokN,hk]
     rw [h9]; omega
   have hw:IntKind.i64.wrap ((x3.p + (piece (bs.drop x3.p)).2.1:Nat):Int) = ((x3.p + (piece (bs.drop x3.p)).2.1:Nat):Int):=wrap64_in (by omega) (by omega)
   rw [hmax,hw]
   have hzero:tokN (bs.drop x3.p) = 0 ↔ (piece (bs.drop x3.p)).1 = -1:=by
    constructor
    ·intro h; by_cases hk:(piece (bs.drop x3.p)).1 = -1
     ·exact hk
     ·simp only [tokN,if_neg hk] at h; omega
    ·intro h; simp only [tokN,if_pos h]
   refine ⟨_,t30 _ (by omega) hsm,fun hz=>⟨fun hn=>⟨⟨(adjT bs x3).l,(adjT bs x3).b,x3.p + (piece (bs.drop x3.p)).2.1 + skipL false (bs.drop (x3.p + (piece (bs.drop x3.p)).2.1)),decide ((piece (bs.drop x3.p)).1 = -1) && decide (skipL false (bs.drop (x3.p + (piece (bs.drop x3.p)).2.1)) = 0)⟩,rfl,rfl,rfl,?_,rfl,rfl,hnx,?_⟩,fun hn=>⟨⟨(adjT bs x3).l,(adjT bs x3).b,x3.p + (piece (bs.drop x3.p)).2.1 + skipL false (bs.drop (x3.p + (piece (bs.drop x3.p)).2.1)),decide ((piece (bs.drop x3.p)).1 = -1) && decide (skipL false (bs.drop (x3.p + (piece (bs.drop x3.p)).2.1)) = 0)⟩,rfl,rfl,rfl,?_,rfl,rfl,hnx,?_⟩⟩,fun hz=>⟨⟨(adjT bs x3).l,(adjT bs x3).b,x3.p + (piece (bs.drop x3.p)).2.1 + skipL false (bs.drop (x3.p + (piece (bs.drop x3.p)).2.1)),decide ((piece (bs.drop x3.p)).1 = -1) && decide (skipL false (bs.drop (x3.p + (piece (bs.drop x3.p)).2.1)) = 0)⟩,rfl,rfl,rfl,?_,rfl,rfl,hnx,?_⟩⟩
   ·simp only; rw [decide_eq_true (hzero.1 hz),decide_eq_true (by omega)]; rfl
   ·simp only; omega
   ·simp only; rw [decide_eq_false (p:=skipL false _ = 0) (by omega)]; simp
   ·simp only; omega
   ·simp only; rw [decide_eq_false (p:=(piece (bs.drop x3.p)).1 = -1) (fun h=>hz (hzero.2 h))]; rfl
   ·simp only; omega
end Go.Abs.Lx
namespace Go.Abs.Lx
open Go.Proofs L8
theorem p160r (m n:Int):PureOk PQ (GQ m) X1 (tbl []) (itbl []) ⟨nA,nA⟩ [] 160 [.int .u8 n] (.bool (decide (97≤n∧n≤122)),[]):=by
 constructor
 rw [w160]
 simp only [retIs_iff,Prod.mk.injEq,AV.bool.injEq,and_true,decide_eq_true_eq,decide_eq_false_iff_not]
 refine ⟨fun h1=>⟨fun h2=>(decide_eq_true (by omega)).symm,fun h2=>(decide_eq_false (by omega)).symm⟩,fun h1=>(decide_eq_false (by omega)).symm⟩
theorem p140r (m n:Int):PureOk PQ (GQ m) X1 (tbl []) (itbl []) ⟨nA,nA⟩ [] 140 [.int .u8 n] (.bool (decide (48≤n∧n≤57)),[]):=by
 constructor
 rw [w140]
 simp only [retIs_iff,Prod.mk.injEq,AV.bool.injEq,and_true,decide_eq_true_eq,decide_eq_false_iff_not]
 refine ⟨fun h1=>⟨fun h2=>(decide_eq_true (by omega)).symm,fun h2=>(decide_eq_false (by omega)).symm⟩,fun h1=>(decide_eq_false (by omega)).symm⟩
theorem o160r (m:Int):SpecOk PQ (GQ m) 160 s160:=spec_of (X:=X1) (m:=[]) mixedQ tbl_nil itbl_nil fun args r h=>by
 unfold s160 at h
 split at h
 ·injection h with h; subst h; exact ⟨⟨nA,nA⟩,p160r m _⟩
 ·cases h
theorem o140r (m:Int):SpecOk PQ (GQ m) 140 s140:=spec_of (X:=X1) (m:=[]) mixedQ tbl_nil itbl_nil fun args r h=>by
 unfold s140 at h
 split at h
 ·injection h with h; subst h; exact ⟨⟨nA,nA⟩,p140r m _⟩
 ·cases h
theorem o139 (m:Int):SpecOk PQ (GQ m) 139 s139:=spec_of (X:=XR) (m:=[]) mixedQ tbl_nil itbl_nil fun args r h=>by
 unfold s139 at h
 split at h
 ·injection h with h; subst h; exact ⟨⟨nA,nA⟩,p139 m _⟩
 ·cases h
theorem o179 (m:Int):SpecOk PQ (GQ m) 179 s179:=spec_of (X:=XR) (m:=[]) mixedQ tbl_nil itbl_nil fun args r h=>by
 unfold s179 at h
 split at h
 ·split at h
  ·rename_i hc
   injection h with h; subst h; exact ⟨a179 _,p179 m _ hc.1 hc.2⟩
  ·cases h
 ·cases h
theorem o123t (m:Int):SpecOk PQ (GQ m) 123 s123t:=sAt_of (X:=X1) (tbl_cons (o160r m) (tbl_cons (o140r m) tbl_nil)) itbl_nil fun bs a _ hl hp=>⟨a123 bs a,p123 m bs a hp (by omega)⟩
theorem o177 (m:Int):SpecOk PQ (GQ m) 177 s177:=sAt_of (X:=XR) (tbl_cons (o140r m) tbl_nil) itbl_nil fun bs a ha hl _=>⟨a177 bs a,p177 m bs a ha hl⟩
theorem o95 (m:Int):SpecOk PQ (GQ m) 95 s95:=sAt_of (X:=XR) (tbl_cons (o139 m) tbl_nil) itbl_nil fun bs a ha hl _=>⟨a95 bs a,p95 m bs a ha hl⟩
theorem o143 (m:Int):SpecOk PQ (GQ m) 143 s143:=sAt_of (X:=XR) tbl_nil itbl_nil fun bs a _ hl hp=>⟨⟨nA,nA⟩,p143 m bs a hp hl⟩
theorem o142 (m:Int):SpecOk PQ (GQ m) 142 s142:=sAt_of (X:=XR) tbl_nil itbl_nil fun bs a _ hl hp=>⟨a142 bs a,p142 m bs a hp.1 hl hp.2⟩
theorem o141 (m:Int) (h62:SpecOk PQ (GQ m) 178 s162):SpecOk PQ (GQ m) 141 s141:=sAt_of (X:=XR) (tbl_cons (o177 m) (tbl_cons h62 (tbl_cons (o179 m) tbl_nil))) itbl_nil fun bs a _ hl hp=>⟨⟨nA,nA⟩,p141 m bs a hp.1 hl hp.2⟩
theorem o96 (m:Int) (h62:SpecOk PQ (GQ m) 178 s162):SpecOk PQ (GQ m) 96 s96:=sAt_of (X:=XR) (tbl_cons (o123t m) (tbl_cons (o140r m) (tbl_cons (o141 m h62) (tbl_cons (o142 m) (tbl_cons (o143 m) tbl_nil))))) itbl_nil fun bs a _ hl hp=>⟨⟨nA,nA⟩,p96 m bs a hp.1 hl hp.2⟩
theorem o47 (m:Int) (h62:SpecOk PQ (GQ m) 178 s162):SpecOk PQ (GQ m) 47 s36:=lax_of (X:=XR) (m:=[]) mixedQ (tbl_cons (o95 m) (tbl_cons (o96 m h62) tbl_nil)) itbl_nil fun args r h=>by
 unfold s36 at h
 split at h
 ·split at h
  ·rename_i hsz
   subst hsz
   unfold onBytes at h
   split at h
   ·rename_i bs hb
    obtain rfl:=unBytes_some hb
    injection h with h; subst h; exact ⟨a47 bs,p47 m bs⟩
   ·cases h
  ·cases h
 ·cases h
end Go.Abs.Lx
namespace Go.Abs.Lx
open Go.Proofs L8
def s200:Spec:=fun args=>match args with | [.int .u8 n]=>some (.bool (decide (48≤n∧n≤57)),[]) | _=>none
def s210:Spec:=fun args=>match args with
 | [.str l,.int .i64 n]=>if 0≤n∧n.toNat≤l.length∧l.length≤1000000 then some (.int .i64 ((l.drop n.toNat).takeWhile digitB).length,[]) else none
 | _=>none
def dAt (s:List UInt8):Nat:=if negB s then 1 else 0
def formR (r:List UInt8):Bool:=
 let n:=(r.takeWhile digitB).length
 let m:=((r.drop (n + 1)).takeWhile digitB).length
 decide (n ≠ 0) && (decide (n = r.length) || (decide (r[n]? = some 46) && decide (1≤m) && decide (m≤6) && decide (n + 1 + m = r.length)))
def formP (s:List UInt8):Bool:=formR (restB s)
def s199:Spec:=fun args=>match args with
 | [.str l]=>if l.length≤1000000 then some (.bool (formP l),[]) else none
 | _=>none
def capM:Nat:=1152921504606846977
def xstep (x:Nat) (c:UInt8):Nat:=if digitB c then min (10 * min x 115292150460684698 + (c.toNat - 48)) capM else x
def xfold (l:List UInt8):Nat:=l.foldl xstep 0
def bstep (k:Int) (c:UInt8):Int:=if c = 46 then 0 else if digitB c then (if 0≤k then k + 1 else k) else k
def bfold (l:List UInt8):Int:=l.foldl bstep (-1)
def xmore:Nat→Nat→Nat
 | x,0=>x
 | x,n + 1=>min (10 * min (xmore x n) 115292150460684698) capM
def refP (s:List UInt8):Int × Int:=
 if formP s = false then (0,3) else
 let x:=xmore (xfold s) (6 - (max (bfold s) 0)).toNat
 if capM≤x then (0,2) else (if s.head? = some 45 then -(x:Int) else x,0)
def a210 (l:List UInt8) (a:Nat):Anns:=⟨fun k=>if k = 2 then some { α:=Nat,slots:=[0,1,5],nb:=0,vals:=fun n=>[.str l,.int .i64 a,.int .i64 n],sS:=fun _=>⟨[],[]⟩,I:=fun n=>n≤((l.drop a).takeWhile digitB).length,μ:=fun n=>l.length - n } else none,nA⟩
def a199 (s:List UInt8):Anns:=⟨fun k=>match k with
 | 1000004=>some { α:=Unit,slots:=[0,3],nb:=0,vals:=fun _=>[.str s,.int .i64 (dAt s)],sS:=fun _=>⟨[],[]⟩,I:=fun _=>True,μ:=fun _=>0 }
 | _=>none,nA⟩
def a178 (s:List UInt8):Anns:=⟨fun k=>match k with
 | 6=>some { α:=Nat,slots:=[0,4,5,6],nb:=0,vals:=fun i=>[.str s,.int .i64 (xfold (s.take i)),.int .i64 (bfold (s.take i)),.int .i64 i],sS:=fun _=>⟨[],[]⟩,I:=fun i=>i≤s.length,μ:=fun i=>s.length - i }
 | 15=>some { α:=Nat,slots:=[0,4,7],nb:=0,vals:=fun j=>[.str s,.int .i64 (xmore (xfold s) j),.int .i64 (max (bfold s) 0 + j)],sS:=fun _=>⟨[],[]⟩,I:=fun j=>j≤(6 - (max (bfold s) 0)).toNat,μ:=fun j=>6 - j }
 | _=>none,nA⟩
def XF:Shapes:=fun f=>match f with
 | 199 | 200=>some shB
 | 210=>some shI
 | _=>none
end Go.Abs.Lx
namespace Go.Abs.Lx
open Go.Proofs L8
theorem w200 (m n:Int):(pureW PQ (GQ m) XF (tbl []) (itbl []) ⟨nA,nA⟩ [] 200 [.int .u8 n] (.bool (decide (48≤n∧n≤57)),[])) =
((decide (n ≥ (48:Int)) = true→(decide (n≤(57:Int)) = true→RetIs (AV.bool true) [] (AV.bool (decide ((48:Int)≤n∧n≤(57:Int))),[]))∧(decide (n≤(57:Int)) = false→RetIs (AV.bool false) [] (AV.bool (decide ((48:Int)≤n∧n≤(57:Int))),[])))∧(decide (n ≥ (48:Int)) = false→RetIs (AV.bool false) [] (AV.bool (decide ((48:Int)≤n∧n≤(57:Int))),[]))):=by kernel_rfl
theorem w210 (m:Int) (l:List UInt8) (a:Nat):(pureW PQ (GQ m) XF (tbl [(200,s200)]) (itbl []) (a210 l a) [] 210 [.str l,.int .i64 a] (.int .i64 ((l.drop a).takeWhile digitB).length,[])) =
((∃ (y:Nat),ValsAre [AV.str l,I6 (↑a:Int),I6 0] [AV.str l,I6 (↑a:Int),I6 (↑y:Int)]∧StIs { boxes:=[],live:=[] } { boxes:=[],live:=[] }∧y≤(List.takeWhile digitB (List.drop a l)).length∧True)∧∀ (x:Nat),x≤(List.takeWhile digitB (List.drop a l)).length→(decide (IntKind.i64.wrap ((↑a:Int) + (↑x:Int)) < (↑l.length:Int)) = true→(0:Int)≤IntKind.i64.wrap ((↑a:Int) + (↑x:Int))∧∃ (c:UInt8),l[(IntKind.i64.wrap ((↑a:Int) + (↑x:Int))).toNat]? = some c∧∃ (b:Bool),CallIs (some (AV.bool (decide ((48:Int)≤(↑c.toNat:Int)∧(↑c.toNat:Int)≤(57:Int))),[])) (AV.bool b) []∧(b = true→∃ (y:Nat),ValsAre [AV.str l,I6 (↑a:Int),I6 (IntKind.i64.wrap ((↑x:Int) + (1:Int)))] [AV.str l,I6 (↑a:Int),I6 (↑y:Int)]∧StIs { boxes:=[],live:=[] } { boxes:=[],live:=[] }∧y≤(List.takeWhile digitB (List.drop a l)).length∧l.length - y < l.length - x)∧(b = false→RetIs (I6 (↑x:Int)) [] (I6 (↑(List.takeWhile digitB (List.drop a l)).length:Int),[])))∧(decide (IntKind.i64.wrap ((↑a:Int) + (↑x:Int)) < (↑l.length:Int)) = false→RetIs (I6 (↑x:Int)) [] (I6 (↑(List.takeWhile digitB (List.drop a l)).length:Int),[]))):=by kernel_rfl
theorem w199 (m:Int) (s:List UInt8):(pureW PQ (GQ m) XF (tbl [(210,s210)]) (itbl []) (a199 s) [] 199 [.str s] (.bool (formP s),[])) =
(((decide ((↑s.length:Int) > (0:Int)) = true→(0:Int)≤(0:Int)∧∃ (c:UInt8),s[(0:Nat)]? = some c∧(((↑c.toNat:Int) == (45:Int)) = true→∃ (_y:Unit),ValsAre [AV.str s,I6 1] [AV.str s,I6 (↑(dAt s):Int)]∧StIs { boxes:=[],live:=[] } { boxes:=[],live:=[] }∧True∧True)∧(((↑c.toNat:Int) == (45:Int)) = false→∃ (_y:Unit),ValsAre [AV.str s,I6 0] [AV.str s,I6 (↑(dAt s):Int)]∧StIs { boxes:=[],live:=[] } { boxes:=[],live:=[] }∧True∧True))∧(decide ((↑s.length:Int) > (0:Int)) = false→∃ (_y:Unit),ValsAre [AV.str s,I6 0] [AV.str s,I6 (↑(dAt s):Int)]∧StIs { boxes:=[],live:=[] } { boxes:=[],live:=[] }∧True∧True))∧∀ (_x:Unit),True→True→∃ (n:Int),CallIs (tbl [(210,s210)] 210 [AV.str s,I6 (↑(dAt s):Int)]) (I6 n) []∧((n == (0:Int)) = true→RetIs (AV.bool false) [] (AV.bool (formP s),[]))∧((n == (0:Int)) = false→((IntKind.i64.wrap ((↑(dAt s):Int) + n) == (↑s.length:Int)) = true→RetIs (AV.bool true) [] (AV.bool (formP s),[]))∧((IntKind.i64.wrap ((↑(dAt s):Int) + n) == (↑s.length:Int)) = false→∃ (n_1:Int),CallIs (tbl [(210,s210)] 210 [AV.str s,I6 (IntKind.i64.wrap (IntKind.i64.wrap ((↑(dAt s):Int) + n) + (1:Int)))]) (I6 n_1) []∧(0:Int)≤IntKind.i64.wrap ((↑(dAt s):Int) + n)∧∃ (c:UInt8),s[(IntKind.i64.wrap ((↑(dAt s):Int) + n)).toNat]? = some c∧(((↑c.toNat:Int) == (46:Int)) = true→(decide (n_1 ≥ (1:Int)) = true→(decide (n_1≤(6:Int)) = true→((IntKind.i64.wrap (IntKind.i64.wrap (IntKind.i64.wrap ((↑(dAt s):Int) + n) + (1:Int)) + n_1) == (↑s.length:Int)) = true→RetIs (AV.bool true) [] (AV.bool (formP s),[]))∧((IntKind.i64.wrap (IntKind.i64.wrap (IntKind.i64.wrap ((↑(dAt s):Int) + n) + (1:Int)) + n_1) == (↑s.length:Int)) = false→RetIs (AV.bool false) [] (AV.bool (formP s),[])))∧(decide (n_1≤(6:Int)) = false→RetIs (AV.bool false) [] (AV.bool (formP s),[])))∧(decide (n_1 ≥ (1:Int)) = false→RetIs (AV.bool false) [] (AV.bool (formP s),[])))∧(((↑c.toNat:Int) == (46:Int)) = false→RetIs (AV.bool false) [] (AV.bool (formP s),[]))))):=by kernel_rfl
abbrev w178c1 (s:List UInt8) (y:Nat):List AV:=[AV.str s,I6 (↑(xfold (List.take y s)):Int),I6 (bfold (List.take y s)),I6 (↑y:Int)]
abbrev w178c2 (x:Nat) (s:List UInt8) (c:UInt8):=min (IntKind.i64.wrap (IntKind.i64.wrap ((10:Int) * min (↑(xfold (List.take x s)):Int) (115292150460684698:Int)) + IntKind.i64.wrap (IntKind.u8.wrap ((↑c.toNat:Int) - (48:Int))))) (1152921504606846977:Int)
abbrev w178c3 (s:List UInt8):AV × List (Nat × TypeId):=(AV.tup [AV.int IntKind.i64 (refP s).fst,AV.int IntKind.i64 (refP s).snd],[])
abbrev w178c4 (x:Nat):=IntKind.i64.wrap ((↑x:Int) + (1:Int))
theorem w178 (m:Int) (s:List UInt8):(pureW PQ (GQ m) XF (tbl [(199,s199),(200,s200)]) (itbl []) (a178 s) [] 178 [.str s] (.tup [.int .i64 (refP s).1,.int .i64 (refP s).2],[])) =
(∃ (b:Bool),CallIs (tbl [(199,s199),(200,s200)] 199 [AV.str s]) (AV.bool b) []∧(b = true→(∃ (y:Nat),ValsAre [AV.str s,I6 0,I6 (-1),I6 0] (w178c1 s y)∧StIs { boxes:=[],live:=[] } { boxes:=[],live:=[] }∧y≤s.length∧True)∧∀ (x:Nat),x≤s.length→(decide ((↑x:Int) < (↑s.length:Int)) = true→(0:Int)≤(↑x:Int)∧∃ (c:UInt8),s[(↑x:Int).toNat]? = some c∧(((↑c.toNat:Int) == (46:Int)) = true→(0:Int)≤(↑x:Int)∧∃ (c:UInt8),s[(↑x:Int).toNat]? = some c∧∃ (b:Bool),CallIs (some (AV.bool (decide ((48:Int)≤(↑c.toNat:Int)∧(↑c.toNat:Int)≤(57:Int))),[])) (AV.bool b) []∧(b = true→(0:Int)≤(↑x:Int)∧∃ (c:UInt8),s[(↑x:Int).toNat]? = some c∧(true = true→∃ (y:Nat),ValsAre [AV.str s,I6 (w178c2 x s c),I6 1,I6 (w178c4 x)] (w178c1 s y)∧StIs { boxes:=[],live:=[] } { boxes:=[],live:=[] }∧y≤s.length∧s.length - y < s.length - x)∧(true = false→∃ (y:Nat),ValsAre [AV.str s,I6 (w178c2 x s c),I6 0,I6 (w178c4 x)] (w178c1 s y)∧StIs { boxes:=[],live:=[] } { boxes:=[],live:=[] }∧y≤s.length∧s.length - y < s.length - x))∧(b = false→∃ (y:Nat),ValsAre [AV.str s,I6 (↑(xfold (List.take x s)):Int),I6 0,I6 (w178c4 x)] (w178c1 s y)∧StIs { boxes:=[],live:=[] } { boxes:=[],live:=[] }∧y≤s.length∧s.length - y < s.length - x))∧(((↑c.toNat:Int) == (46:Int)) = false→(0:Int)≤(↑x:Int)∧∃ (c:UInt8),s[(↑x:Int).toNat]? = some c∧∃ (b:Bool),CallIs (some (AV.bool (decide ((48:Int)≤(↑c.toNat:Int)∧(↑c.toNat:Int)≤(57:Int))),[])) (AV.bool b) []∧(b = true→(0:Int)≤(↑x:Int)∧∃ (c:UInt8),s[(↑x:Int).toNat]? = some c∧(decide (bfold (List.take x s) ≥ (0:Int)) = true→∃ (y:Nat),ValsAre [AV.str s,I6 (w178c2 x s c),I6 (IntKind.i64.wrap (bfold (List.take x s) + (1:Int))),I6 (w178c4 x)] (w178c1 s y)∧StIs { boxes:=[],live:=[] } { boxes:=[],live:=[] }∧y≤s.length∧s.length - y < s.length - x)∧(decide (bfold (List.take x s) ≥ (0:Int)) = false→∃ (y:Nat),ValsAre [AV.str s,I6 (w178c2 x s c),I6 (bfold (List.take x s)),I6 (w178c4 x)] (w178c1 s y)∧StIs { boxes:=[],live:=[] } { boxes:=[],live:=[] }∧y≤s.length∧s.length - y < s.length - x))∧(b = false→∃ (y:Nat),ValsAre [AV.str s,I6 (↑(xfold (List.take x s)):Int),I6 (bfold (List.take x s)),I6 (w178c4 x)] (w178c1 s y)∧StIs { boxes:=[],live:=[] } { boxes:=[],live:=[] }∧y≤s.length∧s.length - y < s.length - x)))∧(decide ((↑x:Int) < (↑s.length:Int)) = false→(∃ (y:Nat),ValsAre [AV.str s,I6 (↑(xfold (List.take x s)):Int),I6 (max (bfold (List.take x s)) (0:Int))] [AV.str s,I6 (↑(xmore (xfold s) y):Int),I6 (max (bfold s) (0:Int) + (↑y:Int))]∧StIs { boxes:=[],live:=[] } { boxes:=[],live:=[] }∧y≤((6:Int) - max (bfold s) (0:Int)).toNat∧True)∧∀ (x:Nat),x≤((6:Int) - max (bfold s) (0:Int)).toNat→(decide (max (bfold s) (0:Int) + (↑x:Int) < (6:Int)) = true→∃ (y:Nat),ValsAre [AV.str s,I6 (min (IntKind.i64.wrap ((10:Int) * min (↑(xmore (xfold s) x):Int) (115292150460684698:Int))) (1152921504606846977:Int)),I6 (IntKind.i64.wrap (max (bfold s) (0:Int) + (↑x:Int) + (1:Int)))] [AV.str s,I6 (↑(xmore (xfold s) y):Int),I6 (max (bfold s) (0:Int) + (↑y:Int))]∧StIs { boxes:=[],live:=[] } { boxes:=[],live:=[] }∧y≤((6:Int) - max (bfold s) (0:Int)).toNat∧(6:Nat) - y < (6:Nat) - x)∧(decide (max (bfold s) (0:Int) + (↑x:Int) < (6:Int)) = false→(decide ((↑(xmore (xfold s) x):Int) > (1152921504606846976:Int)) = true→RetIs (AV.tup [I6 0,I6 2]) [] (w178c3 s))∧(decide ((↑(xmore (xfold s) x):Int) > (1152921504606846976:Int)) = false→(0:Int)≤(0:Int)∧∃ (c:UInt8),s[(0:Nat)]? = some c∧(((↑c.toNat:Int) == (45:Int)) = true→RetIs (AV.tup [I6 (IntKind.i64.wrap ((0:Int) - (↑(xmore (xfold s) x):Int))),I6 0]) [] (w178c3 s))∧(((↑c.toNat:Int) == (45:Int)) = false→RetIs (AV.tup [I6 (↑(xmore (xfold s) x):Int),I6 0]) [] (w178c3 s))))))∧(b = false→RetIs (AV.tup [I6 0,I6 3]) [] (w178c3 s))):=by kernel_rfl
end Go.Abs.Lx
namespace Go.Abs.Lx
open Go.Proofs L8
def keptSet:List AV:=(List.range 256).map fun c=>.bool (decide (c = 10∨c = 34))
def keptSetA:AV:=.agg keptSet
def onBs (f:List UInt8→Option (AV × List (Nat × TypeId))):Spec:=fun args=>match args with
 | [.sl sz es .no]=>if sz = 1 then onBytes es f else none
 | _=>none
def decA (bs:List UInt8):AV:=.tup [.int .i32 (decodeL bs 0).1,.int .i64 (decodeL bs 0).2]
def hiB (bs:List UInt8):Prop:=∃ c t,bs = c :: t∧128≤c.toNat
instance (bs : List UInt8) : Decidable (hiB bs) := match bs with
 | []=>.isFalse fun ⟨_,_,h,_⟩=>nomatch h
 | c :: t=>if h:128≤c.toNat then .isTrue ⟨c,t,rfl,h⟩ else .isFalse fun ⟨_,_,h1,h2⟩=>by injection h1 with h1 h3; subst h1; exact h h2
def s194:Spec:=onBs fun bs=>if hiB bs∧bs.length≤1000000 then some (decA bs,[]) else none
def s168:Spec:=onBs fun bs=>if bs ≠ []∧bs.length≤1000000 then some (decA bs,[]) else none
def s165:Spec:=fun args=>match args with
 | [.int .i64 n]=>some (.bool (decide (8 < n)),[])
 | _=>none
def s166:Spec:=fun args=>match args with
 | [.str [34,10]]=>some (.tup [keptSetA,.bool true],[])
 | _=>none
def s167:ISpec:=fun args S=>match args,S with
 | [.ptr 0 0,.int .u8 c],⟨[some cs],[]⟩=>some (cs = keptSet∧0≤c∧c < 256,.bool (decide (c = 10∨c = 34)),⟨[some cs],[]⟩)
 | _,_=>none
def s169 (m:Int):Spec:=fun args=>match args with
 | [.str a,.str b]=>if 2≤b.length∧(b.length:Int)≤m∧a.length < 4294967281 then some (.int .i64 (Lib.index a b),[]) else none
 | _=>none
def shDec:Sh × Option TypeId:=(.tup [.one (.int .i32),.one (.int .i64)],none)
def XA:Shapes:=fun f=>match f with
 | 163 | 169=>some shI
 | 165=>some shB
 | 166=>some (.tup [.one (.is keptSetA),.one (.is (.bool true))],none)
 | 168 | 194=>some shDec
 | _=>none
def stL (bs:List UInt8):Nat:=(bs.takeWhile lineB).length
def a168 (bs:List UInt8):Anns:=⟨fun k=>if k = 2 then some { α:=Unit,slots:=[0,6,7,8],nb:=0,vals:=fun _=>[bytesA bs,bytesA bs,.int .i64 bs.length,.int .i64 0],sS:=fun _=>⟨[],[]⟩,I:=fun _=>True,μ:=fun _=>0 } else none,nA⟩
def a130 (bs:List UInt8):Anns:=⟨fun k=>match k with
 | 24=>some { α:=Nat,slots:=[7,60,61,62],nb:=1,vals:=fun i=>[.ptr 0 0,bytesA bs,.int .i64 bs.length,.int .i64 i],sS:=fun _=>⟨[some keptSet],[]⟩,I:=fun i=>i≤stL bs,μ:=fun i=>bs.length - i }
 | 32=>some { α:=Nat,slots:=[0,1,12],nb:=0,vals:=fun i=>[bytesA bs,.str [34,10],.int .i64 i],sS:=fun _=>⟨[],[]⟩,I:=fun i=>i≤stL bs,μ:=fun i=>bs.length - i }
 | 48 | 7=>some { α:=Unit,slots:=[],nb:=0,vals:=fun _=>[],sS:=fun _=>⟨[],[]⟩,I:=fun _=>False,μ:=fun _=>0,unroll:=3 }
 | _=>none,nA⟩
end Go.Abs.Lx
namespace Go.Abs.Lx
open Go.Proofs L8
theorem w165 (m n:Int):(pureW PQ (GQ m) XA (tbl []) (itbl []) nAn [] 165 [.int .i64 n] (.bool (decide (8 < n)),[])) =
((decide (n > (8:Int)) = true→RetIs (AV.bool true) [] (AV.bool (decide ((8:Int) < n)),[]))∧(decide (n > (8:Int)) = false→RetIs (AV.bool false) [] (AV.bool (decide ((8:Int) < n)),[]))):=by kernel_rfl
theorem w167 (m c:Int):(openW PQ (GQ m) XA (tbl []) (itbl []) nAn [] 167 [.ptr 0 0,.int .u8 c] ⟨[some keptSet],[]⟩ (.bool (decide (c = 10∨c = 34)),⟨[some keptSet],[]⟩)) =
(((0:Int)≤c∧c < (256:Int))∧∃ (b:Bool),takeA (some false) (some 1) keptSet ((0:Nat) + c.toNat * (1:Nat)) = some (AV.bool b)∧(b = true→RetOpen (AV.p2 1 (AV.bool true) && true) (AV.bool true) { boxes:=[some keptSet],live:=[] } (AV.bool (decide (c = (10:Int)∨c = (34:Int))),{ boxes:=[some keptSet],live:=[] }))∧(b = false→RetOpen (AV.p2 1 (AV.bool false) && true) (AV.bool false) { boxes:=[some keptSet],live:=[] } (AV.bool (decide (c = (10:Int)∨c = (34:Int))),{ boxes:=[some keptSet],live:=[] }))):=by kernel_rfl
abbrev w194c1 (bs:List UInt8):AV × List (Nat × TypeId):=(AV.tup [AV.int IntKind.i32 (↑(decodeL bs 0).fst:Int),AV.int IntKind.i64 (↑(decodeL bs 0).snd:Int)],[])
abbrev w194c2 (n_1:Int):=IntKind.u8.wrap (↑(BitVec.ofInt IntKind.u8.bits n_1 &&& BitVec.ofInt IntKind.u8.bits (7:Int)).toNat:Int)
abbrev w194c3:=AV.tup [AV.int IntKind.i32 (65533:Int),AV.int IntKind.i64 (1:Int)]
abbrev w194c4 (n_4:Int):=IntKind.u8.wrap (↑((fun (x1 x2:BitVec IntKind.u8.bits)=>x1 &&& x2) (BitVec.ofInt IntKind.u8.bits n_4) (BitVec.ofInt IntKind.u8.bits (63:Int))).toNat:Int)
abbrev w194c5 (n_5:Int):=IntKind.u8.wrap (↑((fun (x1 x2:BitVec IntKind.u8.bits)=>x1 &&& x2) (BitVec.ofInt IntKind.u8.bits n_5) (BitVec.ofInt IntKind.u8.bits (63:Int))).toNat:Int)
theorem w194 (m:Int) (bs:List UInt8):(pureW PQ (GQ m) XA (tbl []) (itbl []) nAn [] 194 [.sl 1 (bytesL bs) .no] (decA bs,[])) =
((decide ((↑(bytesL bs).length:Int) < (1:Int)) = true→RetIs (AV.tup [AV.int IntKind.i32 65533,I6 0]) [] (w194c1 bs))∧(decide ((↑(bytesL bs).length:Int) < (1:Int)) = false→((0:Int)≤(0:Int)∧(0:Int) < (↑(bytesL bs).length:Int))∧∃ (n:Int),takeAt PQ 5 (bytesL bs) 0 0 = some (AV.int IntKind.u8 n)∧((0:Int)≤n∧n < (256:Int))∧∃ (n_1:Int),takeAt PQ 5 [keptFirstA] 0 ((0:Nat) + n.toNat * (1:Nat)) = some (AV.int IntKind.u8 n_1)∧(decide (n_1 ≥ (240:Int)) = true→(0:Int)≤(31:Int)∧(0:Int)≤(31:Int)∧((0:Int)≤(0:Int)∧(0:Int) < (↑(bytesL bs).length:Int))∧∃ (n:Int),takeAt PQ 5 (bytesL bs) 0 0 = some (AV.int IntKind.u8 n)∧RetIs (AV.tup [AV.int IntKind.i32 (IntKind.i32.wrap (↑(BitVec.ofInt IntKind.i32.bits (IntKind.i32.wrap (↑((fun (x y:BitVec IntKind.i32.bits)=>x &&& ~~~y) (BitVec.ofInt IntKind.i32.bits (IntKind.i32.wrap n)) (BitVec.ofInt IntKind.i32.bits ((IntKind.i32.wrap (IntKind.i32.wrap n_1 * (2147483648:Int))).fdiv (2147483648:Int)))).toNat:Int)) ||| BitVec.ofInt IntKind.i32.bits (IntKind.i32.wrap (↑((fun (x1 x2:BitVec IntKind.i32.bits)=>x1 &&& x2) (BitVec.ofInt IntKind.i32.bits (65533:Int)) (BitVec.ofInt IntKind.i32.bits ((IntKind.i32.wrap (IntKind.i32.wrap n_1 * (2147483648:Int))).fdiv (2147483648:Int)))).toNat:Int))).toNat:Int)),I6 1]) [] (w194c1 bs))∧(decide (n_1 ≥ (240:Int)) = false→(0:Int)≤(4:Int)∧((0:Int)≤n_1.fdiv (16:Int)∧n_1.fdiv (16:Int) < (16:Int))∧∃ (n_2:Int),∃ (n_3:Int),takeAt PQ 244 [keptAccA] 0 ((0:Nat) + (n_1.fdiv (16:Int)).toNat * (2:Nat)) = some (AV.agg [AV.int IntKind.u8 n_2,AV.int IntKind.u8 n_3])∧(decide ((↑(bytesL bs).length:Int) < IntKind.i64.wrap (w194c2 n_1)) = true→RetIs w194c3 [] (w194c1 bs))∧(decide ((↑(bytesL bs).length:Int) < IntKind.i64.wrap (w194c2 n_1)) = false→((0:Int)≤(1:Int)∧(1:Int) < (↑(bytesL bs).length:Int))∧∃ (n_4:Int),takeAt PQ 5 (bytesL bs) 1 0 = some (AV.int IntKind.u8 n_4)∧(decide (n_4 < n_2) = true→RetIs w194c3 [] (w194c1 bs))∧(decide (n_4 < n_2) = false→(decide (n_3 < n_4) = true→RetIs w194c3 [] (w194c1 bs))∧(decide (n_3 < n_4) = false→(decide (IntKind.i64.wrap (w194c2 n_1)≤(2:Int)) = true→(0:Int)≤(6:Int)∧RetIs (AV.tup [AV.int IntKind.i32 (IntKind.i32.wrap (↑(BitVec.ofInt IntKind.i32.bits (IntKind.i32.wrap (IntKind.i32.wrap (IntKind.u8.wrap (↑((fun (x1 x2:BitVec IntKind.u8.bits)=>x1 &&& x2) (BitVec.ofInt IntKind.u8.bits n) (BitVec.ofInt IntKind.u8.bits (31:Int))).toNat:Int)) * (2:Int) ^ min (Int.toNat (6:Int)) IntKind.i32.bits)) ||| BitVec.ofInt IntKind.i32.bits (IntKind.i32.wrap (w194c4 n_4))).toNat:Int)),I6 2]) [] (w194c1 bs))∧(decide (IntKind.i64.wrap (w194c2 n_1)≤(2:Int)) = false→((0:Int)≤(2:Int)∧(2:Int) < (↑(bytesL bs).length:Int))∧∃ (n_5:Int),takeAt PQ 5 (bytesL bs) 2 0 = some (AV.int IntKind.u8 n_5)∧(decide (n_5 < (128:Int)) = true→RetIs w194c3 [] (w194c1 bs))∧(decide (n_5 < (128:Int)) = false→(decide ((191:Int) < n_5) = true→RetIs w194c3 [] (w194c1 bs))∧(decide ((191:Int) < n_5) = false→(decide (IntKind.i64.wrap (w194c2 n_1)≤(3:Int)) = true→(0:Int)≤(12:Int)∧(0:Int)≤(6:Int)∧RetIs (AV.tup [AV.int IntKind.i32 (IntKind.i32.wrap (↑(BitVec.ofInt IntKind.i32.bits (IntKind.i32.wrap (↑((fun (x1 x2:BitVec IntKind.i32.bits)=>x1 ||| x2) (BitVec.ofInt IntKind.i32.bits (IntKind.i32.wrap (IntKind.i32.wrap (IntKind.u8.wrap (↑((fun (x1 x2:BitVec IntKind.u8.bits)=>x1 &&& x2) (BitVec.ofInt IntKind.u8.bits n) (BitVec.ofInt IntKind.u8.bits (15:Int))).toNat:Int)) * (2:Int) ^ min (Int.toNat (12:Int)) IntKind.i32.bits))) (BitVec.ofInt IntKind.i32.bits (IntKind.i32.wrap (IntKind.i32.wrap (w194c4 n_4) * (2:Int) ^ min (Int.toNat (6:Int)) IntKind.i32.bits)))).toNat:Int)) ||| BitVec.ofInt IntKind.i32.bits (IntKind.i32.wrap (w194c5 n_5))).toNat:Int)),I6 3]) [] (w194c1 bs))∧(decide (IntKind.i64.wrap (w194c2 n_1)≤(3:Int)) = false→((0:Int)≤(3:Int)∧(3:Int) < (↑(bytesL bs).length:Int))∧∃ (n_6:Int),takeAt PQ 5 (bytesL bs) 3 0 = some (AV.int IntKind.u8 n_6)∧(decide (n_6 < (128:Int)) = true→RetIs w194c3 [] (w194c1 bs))∧(decide (n_6 < (128:Int)) = false→(decide ((191:Int) < n_6) = true→RetIs w194c3 [] (w194c1 bs))∧(decide ((191:Int) < n_6) = false→(0:Int)≤(18:Int)∧(0:Int)≤(12:Int)∧(0:Int)≤(6:Int)∧RetIs (AV.tup [AV.int IntKind.i32 (IntKind.i32.wrap (↑(BitVec.ofInt IntKind.i32.bits (IntKind.i32.wrap (↑((fun (x1 x2:BitVec IntKind.i32.bits)=>x1 ||| x2) (BitVec.ofInt IntKind.i32.bits (IntKind.i32.wrap (↑((fun (x1 x2:BitVec IntKind.i32.bits)=>x1 ||| x2) (BitVec.ofInt IntKind.i32.bits (IntKind.i32.wrap (IntKind.i32.wrap (IntKind.u8.wrap (↑((fun (x1 x2:BitVec IntKind.u8.bits)=>x1 &&& x2) (BitVec.ofInt IntKind.u8.bits n) (BitVec.ofInt IntKind.u8.bits (7:Int))).toNat:Int)) * (2:Int) ^ min (Int.toNat (18:Int)) IntKind.i32.bits))) (BitVec.ofInt IntKind.i32.bits (IntKind.i32.wrap (IntKind.i32.wrap (w194c4 n_4) * (2:Int) ^ min (Int.toNat (12:Int)) IntKind.i32.bits)))).toNat:Int))) (BitVec.ofInt IntKind.i32.bits (IntKind.i32.wrap (IntKind.i32.wrap (w194c5 n_5) * (2:Int) ^ min (Int.toNat (6:Int)) IntKind.i32.bits)))).toNat:Int)) ||| BitVec.ofInt IntKind.i32.bits (IntKind.i32.wrap (IntKind.u8.wrap (↑((fun (x1 x2:BitVec IntKind.u8.bits)=>x1 &&& x2) (BitVec.ofInt IntKind.u8.bits n_6) (BitVec.ofInt IntKind.u8.bits (63:Int))).toNat:Int)))).toNat:Int)),I6 4]) [] (w194c1 bs))))))))))))):=by kernel_rfl
abbrev w168c1 (bs:List UInt8):AV × List (Nat × TypeId):=(AV.tup [AV.int IntKind.i32 (↑(decodeL bs 0).fst:Int),AV.int IntKind.i64 (↑(decodeL bs 0).snd:Int)],[])
theorem w168 (m:Int) (bs:List UInt8):(pureW PQ (GQ m) XA (tbl [(194,s194)]) (itbl []) (a168 bs) [] 168 [.sl 1 (bytesL bs) .no] (decA bs,[])) =
((∃ (_y:Unit),ValsAre [AV.sl 1 (bytesL bs) Own.no,AV.sl 1 (bytesL bs) Own.no,I6 (↑(bytesL bs).length:Int),I6 0] [AV.sl 1 (bytesL bs) Own.no,AV.sl 1 (bytesL bs) Own.no,I6 (↑bs.length:Int),I6 0]∧StIs { boxes:=[],live:=[] } { boxes:=[],live:=[] }∧True∧True)∧∀ (_x:Unit),True→(decide ((0:Int) < (↑bs.length:Int)) = true→((0:Int)≤(0:Int)∧(0:Int) < (↑(bytesL bs).length:Int))∧∃ (n:Int),takeAt PQ 5 (bytesL bs) 0 0 = some (AV.int IntKind.u8 n)∧(decide (n < (128:Int)) = true→RetIs (AV.tup [AV.int IntKind.i32 (IntKind.i32.wrap n),I6 1]) [] (w168c1 bs))∧(decide (n < (128:Int)) = false→∃ (n:Int),∃ (n_1:Int),CallIs (tbl [(194,s194)] 194 [AV.sl 1 (bytesL bs) Own.no]) (AV.tup [AV.int IntKind.i32 n,I6 n_1]) []∧RetIs (AV.tup [AV.int IntKind.i32 n,I6 n_1]) [] (w168c1 bs)))∧(decide ((0:Int) < (↑bs.length:Int)) = false→∃ (n:Int),∃ (n_1:Int),CallIs (tbl [(194,s194)] 194 [AV.sl 1 (bytesL bs) Own.no]) (AV.tup [AV.int IntKind.i32 n,I6 n_1]) []∧RetIs (AV.tup [AV.int IntKind.i32 n,I6 n_1]) [] (w168c1 bs))):=by kernel_rfl
end Go.Abs.Lx
namespace Go.Abs.Lx
open Go.Proofs L8
theorem raw_and8 (x y:Int):IntKind.u8.wrap (↑(BitVec.ofInt IntKind.u8.bits x &&& BitVec.ofInt IntKind.u8.bits y).toNat) = bits .and .u8 x y:=rfl
theorem raw_or32 (x y:Int):IntKind.i32.wrap (↑(BitVec.ofInt IntKind.i32.bits x ||| BitVec.ofInt IntKind.i32.bits y).toNat) = bits .or .i32 x y:=rfl
theorem raw_and32 (x y:Int):IntKind.i32.wrap (↑(BitVec.ofInt IntKind.i32.bits x &&& BitVec.ofInt IntKind.i32.bits y).toNat) = bits .and .i32 x y:=rfl
theorem raw_not32 (x y:Int):IntKind.i32.wrap (↑(BitVec.ofInt IntKind.i32.bits x &&& ~~~BitVec.ofInt IntKind.i32.bits y).toNat) = bits .andNot .i32 x y:=rfl
theorem pw6:(2:Int) ^ min (Int.toNat (6:Int)) IntKind.i32.bits = 64:=rfl
theorem pw12:(2:Int) ^ min (Int.toNat (12:Int)) IntKind.i32.bits = 4096:=rfl
theorem pw18:(2:Int) ^ min (Int.toNat (18:Int)) IntKind.i32.bits = 262144:=rfl
theorem firstAt {c:Nat} (h:c < 256):takeAt PQ 5 [keptFirstA] 0 c = some (.int .u8 (Lib.firstT c)):=by
 have ha:aggA PQ 5 = some false:=by kernel_rfl
 have hs:∃ s,sizeA PQ 5 = some s:=⟨1,by kernel_rfl⟩
 obtain ⟨s,hs⟩:=hs
 simp only [takeAt,List.getElem?_cons_zero,ha,hs,takeA,keptFirstA,AV.cells,keptFirst,List.getElem?_map,List.getElem?_range h,Option.map_some]
theorem accAt {i:Nat} (h:i < 16):takeAt PQ 244 [keptAccA] 0 (i * 2) = some (.agg [.int .u8 (Lib.accLo i),.int .u8 (Lib.accHi i)]):=by
 have ha:aggA PQ 244 = some true:=by kernel_rfl
 have hs:sizeA PQ 244 = some 2:=by kernel_rfl
 simp only [takeAt,List.getElem?_cons_zero,ha,hs,takeA,keptAccA,AV.cells]
 match i,h with
 | 0,_ | 1,_ | 2,_ | 3,_ | 4,_ | 5,_ | 6,_ | 7,_ | 8,_ | 9,_ | 10,_ | 11,_ | 12,_ | 13,_ | 14,_ | 15,_=>rfl
 | i + 16,h=>exact absurd h (by omega)
theorem firstT_cases (b:Nat):Lib.firstT b = 240∨Lib.firstT b = 241∨Lib.firstT b = 2∨Lib.firstT b = 19∨Lib.firstT b = 3∨Lib.firstT b = 35∨Lib.firstT b = 52∨Lib.firstT b = 4∨Lib.firstT b = 68:=by
 unfold Lib.firstT
 repeat' split
 all_goals simp
theorem u8at {l:List UInt8} {i:Nat} (h:i < l.length):takeAt PQ 5 (bytesL l) i 0 = some (.int .u8 (l.getD i 0).toNat):=
 (take_u8_iff (by kernel_rfl) (by kernel_rfl)).2 ⟨h,rfl⟩
theorem getB {l:List UInt8} {i:Nat}:(((⟨l.toArray⟩:ByteArray).get! i).toNat) = (l.getD i 0).toNat:=by
 show ((l.toArray)[i]!).toNat = _
 simp only [List.getElem!_toArray,List.getElem!_eq_getElem?_getD,List.getD_eq_getElem?_getD]
 rfl
theorem decodeL_eq (l:List UInt8):decodeL l 0 = Lib.decodeN l.length (l.getD 0 0).toNat (l.getD 1 0).toNat (l.getD 2 0).toNat (l.getD 3 0).toNat:=by
 have h:=Lib.decode_at ⟨l.toArray⟩ 0
 simp only [getB,Nat.zero_add] at h
 exact h
theorem p165 (m n:Int):PureOk PQ (GQ m) XA (tbl []) (itbl []) nAn [] 165 [.int .i64 n] (.bool (decide (8 < n)),[]):=by
 constructor
 rw [w165]
 simp only [retIs_iff,Prod.mk.injEq,AV.bool.injEq,and_true,decide_eq_true_eq,decide_eq_false_iff_not]
 exact ⟨fun h=>(decide_eq_true (by omega)).symm,fun h=>(decide_eq_false (by omega)).symm⟩
set_option maxRecDepth 100000 in
theorem bad_rune {n:Int} (h0:0≤n) (h1:n < 256):bits .or .i32 (bits .andNot .i32 n (-1)) (bits .and .i32 65533 (-1)) = 65533:=by
 have:∀ x:Fin 256,bits .or .i32 (bits .andNot .i32 ((x.val:Nat):Int) (-1)) (bits .and .i32 65533 (-1)) = 65533:=by decide
 have h:=this ⟨n.toNat,by omega⟩
 simp only [Int.toNat_of_nonneg h0] at h
 exact h
theorem wrap32_in {n:Int} (h0:-2147483648≤n) (h1:n < 2147483648):IntKind.i32.wrap n = n:=by rw [IntKind.wrap_i32]; omega
set_option maxRecDepth 100000 in
set_option maxHeartbeats 4000000 in
theorem p194 (m:Int) (bs:List UInt8) (h:hiB bs) (hl:bs.length≤1000000):PureOk PQ (GQ m) XA (tbl []) (itbl []) nAn [] 194 [.sl 1 (bytesL bs) .no] (decA bs,[]):=by
 constructor
 rw [w194]; unfold w194c5 w194c4 w194c3 w194c2 w194c1 I6
 simp only [retIs_iff,bytesL_length,decide_eq_true_eq,decide_eq_false_iff_not,ge_iff_le,Prod.mk.injEq,AV.tup.injEq,List.cons.injEq,AV.int.injEq,and_true,true_and,raw_and8,raw_or32,raw_and32,raw_not32,pw6,pw12,pw18,Nat.zero_add,Nat.mul_one]
 rw [decodeL_eq]
 have hb:∀ i,(bs.getD i 0).toNat < 256:=fun i=>(bs.getD i 0).toNat_lt
 have hlen:1≤bs.length:=by obtain ⟨c,t,rfl,_⟩:=h; simp
 have h128:128≤(bs.getD 0 0).toNat:=by obtain ⟨c,t,rfl,h⟩:=h; simpa using h
 have hx0:Lib.firstT (bs.getD 0 0).toNat ≠ 240:=by
  unfold Lib.firstT
  repeat' split
  all_goals omega
 have slow:=Lib.slow_eq bs.length (bs.getD 0 0).toNat (bs.getD 1 0).toNat (bs.getD 2 0).toNat (bs.getD 3 0).toNat hlen (hb 1) (hb 2) (hb 3)
 have bad:=Lib.bad_eq bs.length (bs.getD 0 0).toNat (bs.getD 1 0).toNat (bs.getD 2 0).toNat (bs.getD 3 0).toNat (hb 0)
 have hcs:=firstT_cases (bs.getD 0 0).toNat
 have hb0:=hb 0
 have hb1:=hb 1
 have hb2:=hb 2
 have hb3:=hb 3
 have t0:=u8at (l:=bs) (i:=0) (by omega)
 have t1:1 < bs.length→_:=fun h=>u8at (l:=bs) (i:=1) h
 have t2:2 < bs.length→_:=fun h=>u8at (l:=bs) (i:=2) h
 have t3:3 < bs.length→_:=fun h=>u8at (l:=bs) (i:=3) h
 have tf:=firstAt hb0
 have hbb0:∀ k,IntKind.i32.wrap (bits .and .u8 ((bs.getD 0 0).toNat:Int) k) = bits .and .u8 ((bs.getD 0 0).toNat:Int) k:=fun k=>wrap32_in (by unfold bits; rw [IntKind.wrap_u8]; omega) (by unfold bits; rw [IntKind.wrap_u8]; omega)
 generalize (bs.getD 0 0).toNat = b0 at *
 generalize (bs.getD 1 0).toNat = b1 at *
 generalize (bs.getD 2 0).toNat = b2 at *
 generalize (bs.getD 3 0).toNat = b3 at *
 have w8:∀ {n:Int},0≤n→n < 256→IntKind.i32.wrap n = n:=fun h0 h1=>wrap32_in (by omega) (by omega)
 refine ⟨fun h=>by omega,fun _=>⟨by omega,(b0:Int),t0,by omega,?_⟩⟩
 rw [Int.toNat_natCast]
 refine ⟨_,tf,fun hx=>?_,fun hx=>?_⟩
 ·have he:Lib.firstT b0 = 241:=by omega
  refine ⟨by omega,by omega,by omega,_,t0,?_⟩
  rw [he,bad he]
  have e1:(IntKind.i32.wrap (IntKind.i32.wrap ((241:Nat):Int) * 2147483648)).fdiv 2147483648 = -1:=by decide
  rw [e1,w8 (by omega) (by omega),bad_rune (by omega) (by omega)]
  exact ⟨rfl,rfl⟩
 ·have hlow:Lib.firstT b0 < 240:=by omega
  have hs:=slow hlow
  have hd:((Lib.firstT b0:Int)).fdiv 16 = ((Lib.firstT b0 / 16:Nat):Int):=by
   rw [Int.fdiv_eq_ediv_of_nonneg _ (by omega)]; rfl
  have hsz:IntKind.i64.wrap (bits .and .u8 (Lib.firstT b0:Int) 7) = ((Lib.firstT b0 % 8:Nat):Int):=by
   have:=u8_and7 (x:=(Lib.firstT b0:Int)) (by omega) (by omega)
   rw [this,wrap64_in (by omega) (by omega)]; rfl
  have ta:=accAt (i:=Lib.firstT b0 / 16) (by omega)
  simp only [hd,hsz,Int.toNat_natCast,decide_eq_true_eq,decide_eq_false_iff_not]
  have hszc:Lib.firstT b0 % 8 = 2∨Lib.firstT b0 % 8 = 3∨Lib.firstT b0 % 8 = 4:=by omega
  generalize Lib.firstT b0 % 8 = sz at *
  generalize Lib.accLo (Lib.firstT b0 / 16) = lo at *
  generalize Lib.accHi (Lib.firstT b0 / 16) = hi at *
  have a96:=u8_and31 (x:=(b0:Int)) (by omega) (by omega)
  have a15:=u8_and15 (x:=(b0:Int)) (by omega) (by omega)
  have a7:=u8_and7 (x:=(b0:Int)) (by omega) (by omega)
  have c1:=u8_and63 (x:=(b1:Int)) (by omega) (by omega)
  have c2:=u8_and63 (x:=(b2:Int)) (by omega) (by omega)
  have c3:=u8_and63 (x:=(b3:Int)) (by omega) (by omega)
  refine ⟨by omega,by omega,_,_,ta,fun h1=>?_,fun h1=>⟨by omega,_,t1 (by omega),fun h2=>?_,fun h2=>⟨fun h3=>?_,fun h3=>⟨fun h4=>⟨by omega,?_⟩,fun h4=>⟨by omega,_,t2 (by omega),fun h5=>?_,fun h5=>⟨fun h6=>?_,fun h6=>⟨fun h7=>⟨by omega,by omega,?_⟩,fun h7=>⟨by omega,_,t3 (by omega),fun h8=>?_,fun h8=>⟨fun h9=>?_,fun h9=>⟨by omega,by omega,by omega,?_⟩⟩⟩⟩⟩⟩⟩⟩⟩⟩
  ·rw [← hs,Lib.slowN,if_pos (by omega)]; exact ⟨rfl,rfl⟩
  ·rw [← hs,Lib.slowN,if_neg (by omega),if_pos (by omega)]; exact ⟨rfl,rfl⟩
  ·rw [← hs,Lib.slowN,if_neg (by omega),if_pos (by omega)]; exact ⟨rfl,rfl⟩
  ·rw [← hs,Lib.slowN,if_neg (by omega),if_neg (by omega),if_pos (by omega)]
   refine ⟨?_,rfl⟩
   rw [a96,c1,wrap32_in (n:=(b0:Int) % 32) (by omega) (by omega),wrap32_in (n:=(b1:Int) % 64) (by omega) (by omega),wrap32_in (n:=(b0:Int) % 32 * 64) (by omega) (by omega),i32_or6 (x:=(b0:Int) % 32 * 64) (y:=(b1:Int) % 64) (by omega) (by omega) (by omega) (by omega) (by omega)]
   simp
  ·rw [← hs,Lib.slowN,if_neg (by omega),if_neg (by omega),if_neg (by omega),if_pos (by omega)]; exact ⟨rfl,rfl⟩
  ·rw [← hs,Lib.slowN,if_neg (by omega),if_neg (by omega),if_neg (by omega),if_pos (by omega)]; exact ⟨rfl,rfl⟩
  ·rw [← hs,Lib.slowN,if_neg (by omega),if_neg (by omega),if_neg (by omega),if_neg (by omega),if_pos (by omega)]
   refine ⟨?_,rfl⟩
   rw [a15,c1,c2,wrap32_in (n:=(b0:Int) % 16) (by omega) (by omega),wrap32_in (n:=(b1:Int) % 64) (by omega) (by omega),wrap32_in (n:=(b2:Int) % 64) (by omega) (by omega),wrap32_in (n:=(b0:Int) % 16 * 4096) (by omega) (by omega),wrap32_in (n:=(b1:Int) % 64 * 64) (by omega) (by omega),
    i32_or12 (x:=(b0:Int) % 16 * 4096) (y:=(b1:Int) % 64 * 64) (by omega) (by omega) (by omega) (by omega) (by omega),i32_or6 (x:=(b0:Int) % 16 * 4096 + (b1:Int) % 64 * 64) (y:=(b2:Int) % 64) (by omega) (by omega) (by omega) (by omega) (by omega)]
   simp
  ·rw [← hs,Lib.slowN,if_neg (by omega),if_neg (by omega),if_neg (by omega),if_neg (by omega),if_neg (by omega),if_pos (by omega)]; exact ⟨rfl,rfl⟩
  ·rw [← hs,Lib.slowN,if_neg (by omega),if_neg (by omega),if_neg (by omega),if_neg (by omega),if_neg (by omega),if_pos (by omega)]; exact ⟨rfl,rfl⟩
  ·rw [← hs,Lib.slowN,if_neg (by omega),if_neg (by omega),if_neg (by omega),if_neg (by omega),if_neg (by omega),if_neg (by omega)]
   refine ⟨?_,rfl⟩
   rw [a7,c1,c2,c3,wrap32_in (n:=(b0:Int) % 8) (by omega) (by omega),wrap32_in (n:=(b1:Int) % 64) (by omega) (by omega),wrap32_in (n:=(b2:Int) % 64) (by omega) (by omega),wrap32_in (n:=(b3:Int) % 64) (by omega) (by omega),wrap32_in (n:=(b0:Int) % 8 * 262144) (by omega) (by omega),wrap32_in (n:=(b1:Int) % 64 * 4096) (by omega) (by omega),wrap32_in (n:=(b2:Int) % 64 * 64) (by omega) (by omega),
    i32_or18 (x:=(b0:Int) % 8 * 262144) (y:=(b1:Int) % 64 * 4096) (by omega) (by omega) (by omega) (by omega) (by omega),i32_or12 (x:=(b0:Int) % 8 * 262144 + (b1:Int) % 64 * 4096) (y:=(b2:Int) % 64 * 64) (by omega) (by omega) (by omega) (by omega) (by omega),i32_or6 (x:=(b0:Int) % 8 * 262144 + (b1:Int) % 64 * 4096 + (b2:Int) % 64 * 64) (y:=(b3:Int) % 64) (by omega) (by omega) (by omega) (by omega) (by omega)]
   simp
end Go.Abs.Lx
namespace Go.Abs.Lx
open Go.Proofs L8
structure DecF (n b1 b2 b3:Nat) (d:Nat × Nat):Prop where
 pos:1≤d.2
 le4:d.2≤4
 le:d.2≤n
 hi:128≤d.1
 b1:1 < d.2→128≤b1
 b2:2 < d.2→128≤b2
 b3:3 < d.2→128≤b3
 len:d.1 ≠ 65533→(d.2 = 2∧d.1 < 2048)∨(d.2 = 3∧2048≤d.1∧d.1 < 65536)∨(d.2 = 4∧65536≤d.1)
 ok:(0≤d.1∧d.1 < 55296)∨(57344≤d.1∧d.1≤1114111)
set_option maxHeartbeats 2000000 in
theorem decF {n b0 b1 b2 b3:Nat} (hn:1≤n) (h0:128≤b0) (h0':b0 < 256) (h1:b1 < 256) (h2:b2 < 256) (h3:b3 < 256):DecF n b1 b2 b3 (Lib.decodeN n b0 b1 b2 b3):=by
 unfold Lib.decodeN
 rw [if_neg (by omega)]
 repeat' split
 all_goals constructor
 all_goals try omega
 all_goals try (simp only; omega)
theorem encF (r:Nat) (h:128≤r):∃ e0 u,(Utf8.encode (r:Int)).data.toList = e0 :: u∧192≤e0.toNat∧(((r < 55296)∨(57344≤r∧r≤1114111))→(r < 2048→u.length = 1)∧(2048≤r→r < 65536→u.length = 2)∧(65536≤r→u.length = 3)):=by
 have key:∀ c,128≤c→∃ e0 u,((if c < 0x80 then (⟨#[UInt8.ofNat c]⟩:ByteArray)
 else if c < 0x800 then ⟨#[UInt8.ofNat (0xC0 + c / 64),UInt8.ofNat (0x80 + c % 64)]⟩
 else if c < 0x10000 then ⟨#[UInt8.ofNat (0xE0 + c / 4096),UInt8.ofNat (0x80 + c / 64 % 64),UInt8.ofNat (0x80 + c % 64)]⟩
 else ⟨#[UInt8.ofNat (0xF0 + c / 262144),UInt8.ofNat (0x80 + c / 4096 % 64),UInt8.ofNat (0x80 + c / 64 % 64),UInt8.ofNat (0x80 + c % 64)]⟩).data.toList = e0 :: u)∧(c≤1114111→192≤e0.toNat)∧(c < 2048→u.length = 1)∧(2048≤c→c < 65536→u.length = 2)∧(65536≤c→u.length = 3):=by
  intro c hc
  rw [if_neg (by omega)]
  have hof:∀ n,n < 256→(UInt8.ofNat n).toNat = n:=fun n hn=>by simp; omega
  by_cases h1:c < 0x800
  ·rw [if_pos h1]
   exact ⟨_,_,rfl,fun _=>by rw [hof _ (by omega)]; omega,fun _=>rfl,fun h=>by omega,fun h=>by omega⟩
  ·rw [if_neg h1]
   by_cases h2:c < 0x10000
   ·rw [if_pos h2]
    exact ⟨_,_,rfl,fun _=>by rw [hof _ (by omega)]; omega,fun h=>by omega,fun _ _=>rfl,fun h=>by omega⟩
   ·rw [if_neg h2]
    exact ⟨_,_,rfl,fun _=>by rw [hof _ (by omega)]; omega,fun h=>by omega,fun _ _=>by omega,fun _=>rfl⟩
 unfold Utf8.encode
 by_cases hv:Utf8.valid (r:Int) = true
 ·simp only [hv,if_true,Int.toNat_natCast]
  obtain ⟨e0,u,h1,h2,h3⟩:=key r h
  refine ⟨e0,u,h1,h2 ?_,fun _=>h3⟩
  simp only [Utf8.valid,Bool.or_eq_true,Bool.and_eq_true,decide_eq_true_eq] at hv
  omega
 ·simp only [hv,if_false,Bool.false_eq_true,Utf8.runeError]
  obtain ⟨e0,u,h1,h2,h3⟩:=key 0xFFFD (by omega)
  refine ⟨e0,u,h1,h2 (by omega),fun h'=>?_⟩
  simp only [Utf8.valid,Bool.or_eq_true,Bool.and_eq_true,decide_eq_true_eq] at hv
  omega
theorem idx_none {e0:UInt8} {u:List UInt8} (h:192≤e0.toNat):Lib.index [34,10] (e0 :: u) = -1:=by
 have h1:¬ e0 = 34:=by rintro rfl; simp at h
 have h2:¬ e0 = 10:=by rintro rfl; simp at h
 have e1:(e0 == 34) = false:=by simpa using h1
 have e2:(e0 == 10) = false:=by simpa using h2
 simp [Lib.index,List.isPrefixOf,e1,e2]
theorem tw_add {p:UInt8→Bool}:∀ {k:Nat} {l:List UInt8} {x:Nat},x≤(l.takeWhile p).length→(∀ i,i < k→x + i < l.length∧p (l.getD (x + i) 0) = true)→x + k≤(l.takeWhile p).length
 | 0,l,x,hx,_=>hx
 | k + 1,l,x,hx,h=>by
  have h0:=h 0 (by omega)
  have h1:=tw_next (p:=p) hx h0.1 h0.2
  have:=tw_add (p:=p) (k:=k) (l:=l) (x:=x + 1) h1 fun i hi=>by
   have:=h (i + 1) (by omega)
   rw [show x + 1 + i = x + (i + 1) by omega]; exact this
  omega
end Go.Abs.Lx
namespace Go.Abs.Lx
open Go.Proofs L8
abbrev w130c2 (bs:List UInt8):AV × List (Nat × TypeId):=(AV.int IntKind.i64 (if stL bs < bs.length then (↑(stL bs):Int) else (-1:Int)),[])
abbrev w130c7 (bs:List UInt8) (x:Nat) (n_1:Int):List AV:=[AV.sl 1 (bytesL bs) Own.no,AV.str [34,10],AV.int IntKind.i64 (IntKind.i64.wrap ((↑x:Int) + n_1))]
abbrev w130c6 (bs:List UInt8) (y:Nat):List AV:=[AV.sl 1 (bytesL bs) Own.no,AV.str [34,10],AV.int IntKind.i64 (↑y:Int)]
abbrev w130c4 (bs:List UInt8) (x:Nat) (n_1:Int):Prop:=true = false→∃ (y:Nat),ValsAre (w130c7 bs x n_1) (w130c6 bs y)∧StIs { boxes:=[],live:=[] } { boxes:=[],live:=[] }∧y≤stL bs∧bs.length - y < bs.length - x
abbrev w130c3 (bs:List UInt8) (x:Nat) (n_1:Int):Prop:=false = false→∃ (y:Nat),ValsAre (w130c7 bs x n_1) (w130c6 bs y)∧StIs { boxes:=[],live:=[] } { boxes:=[],live:=[] }∧y≤stL bs∧bs.length - y < bs.length - x
abbrev w130c1 (n:Int) (x:Nat) (bs:List UInt8) (n_1:Int):Prop:=(0:Nat) < (2:Nat)→(true = true→((n == (34:Int)) = true→RetIs (I6 (↑x:Int)) [] (w130c2 bs))∧((n == (34:Int)) = false→((1:Nat) < (2:Nat)→(true = true→((n == (10:Int)) = true→RetIs (I6 (↑x:Int)) [] (w130c2 bs))∧((n == (10:Int)) = false→((2:Nat) < (2:Nat)→(true = true→((n == (0:Int)) = true→RetIs (I6 (↑x:Int)) [] (w130c2 bs))∧((n == (0:Int)) = false→False))∧(w130c4 bs x n_1))∧((2:Nat)≤(2:Nat)→(false = true→False)∧(w130c3 bs x n_1))))∧(w130c4 bs x n_1))∧((2:Nat)≤(1:Nat)→(false = true→False)∧(w130c3 bs x n_1))))∧(w130c4 bs x n_1)
abbrev w130c5 (n:Int) (x:Nat) (bs:List UInt8):Prop:=(0:Nat) < (2:Nat)→(true = true→((n == (34:Int)) = true→RetIs (I6 (↑x:Int)) [] (w130c2 bs))∧((n == (34:Int)) = false→((1:Nat) < (2:Nat)→(true = true→((n == (10:Int)) = true→RetIs (I6 (↑x:Int)) [] (w130c2 bs))∧((n == (10:Int)) = false→((2:Nat) < (2:Nat)→(true = true→((n == (0:Int)) = true→RetIs (I6 (↑x:Int)) [] (w130c2 bs))∧((n == (0:Int)) = false→False))∧(true = false→False))∧((2:Nat)≤(2:Nat)→(false = true→False)∧(false = false→False))))∧(true = false→False))∧((2:Nat)≤(1:Nat)→(false = true→False)∧(false = false→False))))∧(true = false→False)
abbrev w130c8 (m:Int) (x:Nat) (bs:List UInt8):=tbl [(163,sIndexByteString),(165,s165),(166,s166),(168,s168),(169,s169 m)] 168 [AV.sl 1 (List.drop (↑x:Int).toNat (List.take (bytesL bs).length (bytesL bs))) Own.no]
abbrev w130c9 (x:Nat) (bs:List UInt8):Prop:=(0:Int)≤(↑x:Int)∧(↑x:Int) < (↑(bytesL bs).length:Int)
abbrev w130c10 (m:Int) (n:Int):=tbl [(163,sIndexByteString),(165,s165),(166,s166),(168,s168),(169,s169 m)] 169 [AV.str [34,10],AV.str (Utf8.encode n).data.toList]
abbrev w130c11 (n:Int):=[(34:UInt8),(10:UInt8)] == (Utf8.encode n).data.toList
abbrev w130c12 (n:Int):AV × List (Nat × TypeId):=(AV.int IntKind.i64 (Lib.indexByte [(34:UInt8),(10:UInt8)] n.toNat.toUInt8),[])
abbrev w130c13 (bs:List UInt8):Prop:=false = false→RetIs (AV.int IntKind.i64 (-1)) [] (w130c2 bs)
theorem w130 (m:Int) (bs:List UInt8):(pureW PQ (GQ m) XA (tbl [(163,sIndexByteString),(165,s165),(166,s166),(168,s168),(169,s169 m)]) (itbl [(167,s167)]) (a130 bs) [] 130 [.sl 1 (bytesL bs) .no,.str [34,10]] (.int .i64 (if stL bs < bs.length then (stL bs:Int) else -1),[])) =
((false = true→RetIs (I6 (-1)) [] (w130c2 bs))∧(false = false→(((↑(bytesL bs).length:Int) == (1:Int)) = true→((0:Int)≤(0:Int)∧(0:Int) < (↑(bytesL bs).length:Int))∧∃ (n:Int),takeAt PQ 5 (bytesL bs) 0 0 = some (AV.int IntKind.u8 n)∧(decide (IntKind.i32.wrap n ≥ (128:Int)) = true→((0:Nat) < (2:Nat)→(true = true→(false = true→RetIs (I6 0) [] (w130c2 bs))∧(false = false→((1:Nat) < (2:Nat)→(true = true→(false = true→RetIs (I6 0) [] (w130c2 bs))∧(false = false→((2:Nat) < (2:Nat)→(true = true→(false = true→RetIs (I6 0) [] (w130c2 bs))∧(false = false→False))∧(true = false→RetIs (I6 (-1)) [] (w130c2 bs)))∧((2:Nat)≤(2:Nat)→(false = true→False)∧(w130c13 bs))))∧(true = false→RetIs (I6 (-1)) [] (w130c2 bs)))∧((2:Nat)≤(1:Nat)→(false = true→False)∧(w130c13 bs))))∧(true = false→RetIs (I6 (-1)) [] (w130c2 bs)))∧((2:Nat)≤(0:Nat)→(false = true→False)∧(w130c13 bs)))∧(decide (IntKind.i32.wrap n ≥ (128:Int)) = false→((0:Int)≤(0:Int)∧(0:Int) < (↑(bytesL bs).length:Int))∧∃ (n:Int),takeAt PQ 5 (bytesL bs) 0 0 = some (AV.int IntKind.u8 n)∧∃ (n_1:Int),CallIs (some (w130c12 n)) (I6 n_1) []∧(decide (n_1 ≥ (0:Int)) = true→RetIs (I6 0) [] (w130c2 bs))∧(decide (n_1 ≥ (0:Int)) = false→RetIs (I6 (-1)) [] (w130c2 bs))))∧(((↑(bytesL bs).length:Int) == (1:Int)) = false→(false = true→(0:Int)≤(0:Int)∧∃ (c:UInt8),some (34:UInt8) = some c∧(decide (IntKind.i32.wrap (↑c.toNat:Int) ≥ (128:Int)) = true→False)∧(decide (IntKind.i32.wrap (↑c.toNat:Int) ≥ (128:Int)) = false→False))∧(false = false→∃ (b:Bool),CallIs (some (AV.bool (decide ((8:Int) < (↑(bytesL bs).length:Int))),[])) (AV.bool b) []∧(b = true→CallIs (some (AV.tup [keptSetA,AV.bool true],[])) (AV.tup [keptSetA,AV.bool true]) []∧(true = true→(∃ (y:Nat),ValsAre [AV.ptr 0 0,AV.sl 1 (bytesL bs) Own.no,I6 (↑(bytesL bs).length:Int),I6 0] [AV.ptr 0 0,AV.sl 1 (bytesL bs) Own.no,I6 (↑bs.length:Int),I6 (↑y:Int)]∧StIs { boxes:=[some keptSet],live:=[] } { boxes:=[some keptSet],live:=[] }∧y≤stL bs∧True)∧∀ (x:Nat),x≤stL bs→(decide ((↑x:Int) < (↑bs.length:Int)) = true→(w130c9 x bs)∧∃ (n:Int),takeAt PQ 5 (bytesL bs) (↑x:Int).toNat 0 = some (AV.int IntKind.u8 n)∧(keptSet = keptSet∧(0:Int)≤n∧n < (256:Int))∧(decide (n = (10:Int)∨n = (34:Int)) = true→RetIs (I6 (↑x:Int)) [] (w130c2 bs))∧(decide (n = (10:Int)∨n = (34:Int)) = false→∃ (y:Nat),ValsAre [AV.ptr 0 0,AV.sl 1 (bytesL bs) Own.no,I6 (↑bs.length:Int),I6 (IntKind.i64.wrap ((↑x:Int) + (1:Int)))] [AV.ptr 0 0,AV.sl 1 (bytesL bs) Own.no,I6 (↑bs.length:Int),I6 (↑y:Int)]∧StIs { boxes:=[some keptSet],live:=[] } { boxes:=[some keptSet],live:=[] }∧y≤stL bs∧bs.length - y < bs.length - x))∧(decide ((↑x:Int) < (↑bs.length:Int)) = false→RetIs (I6 (-1)) [] (w130c2 bs)))∧(true = false→False∧∀ (x:Nat),x≤stL bs→(decide ((↑x:Int) < (↑(bytesL bs).length:Int)) = true→(w130c9 x bs)∧∃ (n:Int),takeAt PQ 5 (bytesL bs) (↑x:Int).toNat 0 = some (AV.int IntKind.u8 n)∧(decide (IntKind.i32.wrap n < (128:Int)) = true→(w130c9 x bs)∧∃ (n:Int),takeAt PQ 5 (bytesL bs) (↑x:Int).toNat 0 = some (AV.int IntKind.u8 n)∧∃ (n_1:Int),CallIs (some (w130c12 n)) (I6 n_1) []∧(decide (n_1 ≥ (0:Int)) = true→RetIs (I6 (↑x:Int)) [] (w130c2 bs))∧(decide (n_1 ≥ (0:Int)) = false→False))∧(decide (IntKind.i32.wrap n < (128:Int)) = false→(0:Int)≤(↑x:Int)∧((↑x:Int).toNat≤(bytesL bs).length∧(bytesL bs).length≤(bytesL bs).length)∧((1:Nat) = (1:Nat)∨bytesL bs = [])∧∃ (n:Int),∃ (n_1:Int),CallIs (w130c8 m x bs) (AV.tup [AV.int IntKind.i32 n,I6 n_1]) []∧((n != (65533:Int)) = true→(((2:Int) == n_1) = true→((w130c11 n) = true→RetIs (I6 (↑x:Int)) [] (w130c2 bs))∧((w130c11 n) = false→False))∧(((2:Int) == n_1) = false→∃ (n_2:Int),some (I6 m) = some (I6 n_2)∧(decide (n_2 ≥ n_1) = true→∃ (n_3:Int),CallIs (w130c10 m n) (I6 n_3) []∧(decide (n_3 ≥ (0:Int)) = true→RetIs (I6 (↑x:Int)) [] (w130c2 bs))∧(decide (n_3 ≥ (0:Int)) = false→False))∧(decide (n_2 ≥ n_1) = false→(w130c5 n x bs)∧((2:Nat)≤(0:Nat)→(false = true→False)∧(false = false→False)))))∧((n != (65533:Int)) = false→(w130c5 n x bs)∧((2:Nat)≤(0:Nat)→(false = true→False)∧(false = false→False)))))∧(decide ((↑x:Int) < (↑(bytesL bs).length:Int)) = false→RetIs (I6 (-1)) [] (w130c2 bs))))∧(b = false→(∃ (y:Nat),ValsAre [AV.sl 1 (bytesL bs) Own.no,AV.str [34,10],I6 0] (w130c6 bs y)∧StIs { boxes:=[],live:=[] } { boxes:=[],live:=[] }∧y≤stL bs∧True)∧∀ (x:Nat),x≤stL bs→(decide ((↑x:Int) < (↑(bytesL bs).length:Int)) = true→(w130c9 x bs)∧∃ (n:Int),takeAt PQ 5 (bytesL bs) (↑x:Int).toNat 0 = some (AV.int IntKind.u8 n)∧(decide (IntKind.i32.wrap n < (128:Int)) = true→(w130c9 x bs)∧∃ (n:Int),takeAt PQ 5 (bytesL bs) (↑x:Int).toNat 0 = some (AV.int IntKind.u8 n)∧∃ (n_1:Int),CallIs (some (w130c12 n)) (I6 n_1) []∧(decide (n_1 ≥ (0:Int)) = true→RetIs (I6 (↑x:Int)) [] (w130c2 bs))∧(decide (n_1 ≥ (0:Int)) = false→∃ (y:Nat),ValsAre [AV.sl 1 (bytesL bs) Own.no,AV.str [34,10],I6 (IntKind.i64.wrap ((↑x:Int) + (1:Int)))] (w130c6 bs y)∧StIs { boxes:=[],live:=[] } { boxes:=[],live:=[] }∧y≤stL bs∧bs.length - y < bs.length - x))∧(decide (IntKind.i32.wrap n < (128:Int)) = false→(0:Int)≤(↑x:Int)∧((↑x:Int).toNat≤(bytesL bs).length∧(bytesL bs).length≤(bytesL bs).length)∧((1:Nat) = (1:Nat)∨bytesL bs = [])∧∃ (n:Int),∃ (n_1:Int),CallIs (w130c8 m x bs) (AV.tup [AV.int IntKind.i32 n,I6 n_1]) []∧((n != (65533:Int)) = true→(((2:Int) == n_1) = true→((w130c11 n) = true→RetIs (I6 (↑x:Int)) [] (w130c2 bs))∧((w130c11 n) = false→∃ (y:Nat),ValsAre (w130c7 bs x n_1) (w130c6 bs y)∧StIs { boxes:=[],live:=[] } { boxes:=[],live:=[] }∧y≤stL bs∧bs.length - y < bs.length - x))∧(((2:Int) == n_1) = false→∃ (n_2:Int),some (I6 m) = some (I6 n_2)∧(decide (n_2 ≥ n_1) = true→∃ (n_3:Int),CallIs (w130c10 m n) (I6 n_3) []∧(decide (n_3 ≥ (0:Int)) = true→RetIs (I6 (↑x:Int)) [] (w130c2 bs))∧(decide (n_3 ≥ (0:Int)) = false→∃ (y:Nat),ValsAre (w130c7 bs x n_1) (w130c6 bs y)∧StIs { boxes:=[],live:=[] } { boxes:=[],live:=[] }∧y≤stL bs∧bs.length - y < bs.length - x))∧(decide (n_2 ≥ n_1) = false→(w130c1 n x bs n_1)∧((2:Nat)≤(0:Nat)→(false = true→False)∧(w130c3 bs x n_1)))))∧((n != (65533:Int)) = false→(w130c1 n x bs n_1)∧((2:Nat)≤(0:Nat)→(false = true→False)∧(w130c3 bs x n_1)))))∧(decide ((↑x:Int) < (↑(bytesL bs).length:Int)) = false→RetIs (I6 (-1)) [] (w130c2 bs))))))):=by kernel_rfl
end Go.Abs.Lx
namespace Go.Abs.Lx
open Go.Proofs L8
theorem ft_imp {p:Prop}:(false = true→p) ↔ True:=⟨fun _=>trivial,fun _ h=>nomatch h⟩
theorem ib_iff (c:UInt8):0≤Lib.indexByte [34,10] c ↔ (c = 34∨c = 10):=by
 simp only [Lib.indexByte]
 by_cases h1:c = 34
 ·subst h1; decide
 ·by_cases h2:c = 10
  ·subst h2; decide
  ·have e1:¬ 34 = c:=fun h=>h1 h.symm
   have e2:¬ 10 = c:=fun h=>h2 h.symm
   simp [h1,h2,e1,e2]
theorem lineB_iff (c:UInt8):lineB c = true ↔ ¬ (c = 34∨c = 10):=by simp [lineB]
theorem lineB_false (c:UInt8):lineB c = false ↔ (c = 34∨c = 10):=by
 rw [← Bool.not_eq_true,lineB_iff]; exact ⟨fun h=>Classical.byContradiction fun h'=>h h',fun h h'=>h' h⟩
theorem u8_of (c:UInt8):((c.toNat:Int)).toNat.toUInt8 = c:=by simp
theorem nat_eq_u8 {c:UInt8} {k:Nat} (hk:k < 256):((c.toNat:Int) = k) ↔ c = UInt8.ofNat k:=by
 rw [← UInt8.toNat_inj]; simp; omega
theorem st_stop {bs:List UInt8} {x:Nat} (hx:x≤stL bs) (hlt:x < bs.length) (h:bs.getD x 0 = 34∨bs.getD x 0 = 10):(x:Int) = if stL bs < bs.length then (stL bs:Int) else -1:=by
 have:x = stL bs:=tw_stop hx fun _=>(lineB_false _).2 h
 rw [if_pos (by omega),this]
theorem st_next {bs:List UInt8} {x:Nat} (hx:x≤stL bs) (hlt:x < bs.length) (h:¬ (bs.getD x 0 = 34∨bs.getD x 0 = 10)):x + 1≤stL bs:=tw_next hx hlt ((lineB_iff _).2 h)
set_option maxHeartbeats 4000000 in
theorem p130 (m:Int) (bs:List UInt8) (hl:bs.length≤1000000):PureOk PQ (GQ m) XA (tbl [(163,sIndexByteString),(165,s165),(166,s166),(168,s168),(169,s169 m)]) (itbl [(167,s167)]) (a130 bs) [] 130 [.sl 1 (bytesL bs) .no,.str [34,10]] (.int .i64 (if stL bs < bs.length then (stL bs:Int) else -1),[]):=by
 constructor
 rw [w130]; unfold w130c13 w130c12 w130c11 w130c10 w130c9 w130c8 w130c5 w130c1 w130c3 w130c4 w130c6 w130c7 w130c2 I6
 have e02:(0 < 2) = True:=by simp
 have e12:(1 < 2) = True:=by simp
 have e22:(2 < 2) = False:=by simp
 have f22:(2≤2) = True:=by simp
 have f21:(2≤1) = False:=by simp
 have f20:(2≤0) = False:=by simp
 simp only [callIs_iff,valsAre_iff,stIs_iff,retIs_iff,bytesL_length,Option.some.injEq,Prod.mk.injEq,AV.int.injEq,AV.bool.injEq,List.cons.injEq,and_true,true_and,decide_eq_true_eq,decide_eq_false_iff_not,beq_iff_eq,beq_eq_false_iff_ne,bne_iff_ne,bne_eq_false_iff_eq,tf_imp,ft_imp,true_implies,Int.toNat_natCast,ge_iff_le,e02,e12,e22,f22,f21,f20,false_implies,true_or,ne_eq]
 have hle:stL bs≤bs.length:=tw_le bs
 have hb:∀ i,(bs.getD i 0).toNat < 256:=fun i=>(bs.getD i 0).toNat_lt
 have fin:∀ x:Nat,x≤stL bs→¬ (x:Int) < bs.length→(-1:Int) = if stL bs < bs.length then (stL bs:Int) else -1:=fun x hx h=>by rw [if_neg (by omega)]
 have h34:∀ i,(((bs.getD i 0).toNat:Int) = 34 ↔ bs.getD i 0 = 34):=fun i=>nat_eq_u8 (k:=34) (by omega)
 have h10:∀ i,(((bs.getD i 0).toNat:Int) = 10 ↔ bs.getD i 0 = 10):=fun i=>nat_eq_u8 (k:=10) (by omega)
 have w133:∀ i,IntKind.i32.wrap ((bs.getD i 0).toNat:Int) = ((bs.getD i 0).toNat:Int):=fun i=>wrap32_in (by omega) (by have:=hb i; omega)
 have low:∀ i,128≤(bs.getD i 0).toNat→lineB (bs.getD i 0) = true:=fun i h=>by
  rw [lineB_iff]; rintro (h' | h') <;> rw [h'] at h <;> simp at h
 have land:∀ x k:Nat,x < bs.length→1≤k→x + k≤stL bs→∃ y:Nat,IntKind.i64.wrap ((x:Int) + (k:Int)) = y∧y≤stL bs∧bs.length - y < bs.length - x:=fun x k h0 h1 h2 =>
  ⟨x + k,by rw [wrap64_in (by omega) (by omega)]; simp,h2,by omega⟩
 refine ⟨fun h1=>⟨by omega,_,u8at (i:=0) (by omega),fun hhi=>?_,fun hlo=>⟨by omega,_,u8at (i:=0) (by omega),_,rfl,fun h=>?_,fun h=>?_⟩⟩,fun h1=>⟨_,rfl,fun h8=>⟨⟨0,rfl,Nat.zero_le _⟩,fun x hx=>⟨fun hlt=>⟨by omega,_,u8at (i:=x) (by omega),⟨by omega,by have:=hb x; omega⟩,fun h=>?_,fun h=>?_⟩,fin x hx⟩⟩,fun h8=>⟨⟨0,rfl,Nat.zero_le _⟩,fun x hx=>⟨fun hlt=>⟨by omega,_,u8at (i:=x) (by omega),fun hlo=>⟨by omega,_,u8at (i:=x) (by omega),_,rfl,fun h=>?_,fun h=>?_⟩,fun hhi=>⟨by omega,by omega,?_⟩⟩,fin x hx⟩⟩⟩⟩
 ·rw [w133] at hhi
  have:=tw_next (p:=lineB) (l:=bs) (k:=0) (by omega) (by omega) (low 0 (by omega))
  have:1≤stL bs:=this
  rw [if_neg (by omega)]
 ·rw [u8_of,ib_iff] at h
  exact st_stop (x:=0) (by omega) (by omega) h
 ·rw [u8_of,ib_iff] at h
  have:=st_next (x:=0) (by omega) (by omega) h
  rw [if_neg (by omega)]
 ·rw [h34,h10] at h
  exact st_stop hx (by omega) h.symm
 ·rw [h34,h10] at h
  have:=st_next hx (by omega) fun h'=>h h'.symm
  exact land x 1 (by omega) (by omega) this
 ·rw [u8_of,ib_iff] at h
  exact st_stop hx (by omega) h
 ·rw [u8_of,ib_iff] at h
  exact land x 1 (by omega) (by omega) (st_next hx (by omega) h)
 ·rw [w133] at hhi
  have hd:=decF (n:=(bs.drop x).length) (b0:=((bs.drop x).getD 0 0).toNat) (b1:=((bs.drop x).getD 1 0).toNat) (b2:=((bs.drop x).getD 2 0).toNat) (b3:=((bs.drop x).getD 3 0).toNat) (by rw [List.length_drop]; omega) (by rw [getD_drop',Nat.add_zero]; omega) (UInt8.toNat_lt _) (UInt8.toNat_lt _) (UInt8.toNat_lt _) (UInt8.toNat_lt _)
  rw [← decodeL_eq] at hd
  have t58:tbl [(163,sIndexByteString),(165,s165),(166,s166),(168,s168),(169,s169 m)] 168 [AV.sl 1 (List.drop x (List.take bs.length (bytesL bs))) Own.no] = some (decA (bs.drop x),[]):=by
   rw [tbl_miss (fun h=>absurd h (by decide)),tbl_miss (fun h=>absurd h (by decide)),tbl_miss (fun h=>absurd h (by decide)),tbl_hit]
   have e:List.drop x (List.take bs.length (bytesL bs)) = bytesL (bs.drop x):=by
    rw [List.take_of_length_le (by rw [bytesL_length]; exact Nat.le_refl _)]; simp [bytesL]
   rw [e]
   simp only [s168,onBs,onBytes,unBytes_mk,if_true]
   rw [if_pos ⟨by rw [← List.length_pos_iff,List.length_drop]; omega,by rw [List.length_drop]; omega⟩]
  refine ⟨_,_,t58,?_⟩
  obtain ⟨d1,d2,d3,d4,d5,d6,d7,d8,d9⟩:=hd
  simp only [getD_drop',List.length_drop] at d3 d5 d6 d7
  generalize decodeL (bs.drop x) 0 = d at *
  obtain ⟨e0,u,he,hge,hlen⟩:=encF d.1 d4
  have hadv:x + d.2≤stL bs:=tw_add hx fun i hi=>by
   refine ⟨by omega,low _ ?_⟩
   have hi4:i = 0∨i = 1∨i = 2∨i = 3:=by omega
   rcases hi4 with rfl | rfl | rfl | rfl
   ·rw [Nat.add_zero]; omega
   ·exact d5 (by omega)
   ·exact d6 (by omega)
   ·exact d7 (by omega)
  have hland:=land x d.2 (by omega) d1 hadv
  have n34:¬ (d.1:Int) = 34:=by omega
  have n10:¬ (d.1:Int) = 10:=by omega
  refine ⟨fun h3=>⟨fun h2=>⟨fun h=>?_,fun _=>hland⟩,fun h2=>⟨m,rfl,fun hm=>⟨-1,?_,fun h=>absurd h (by omega),fun _=>hland⟩,fun _=>⟨fun h=>absurd h n34,fun _=>⟨fun h=>absurd h n10,fun _=>hland⟩⟩⟩⟩,fun _=>⟨fun h=>absurd h n34,fun _=>⟨fun h=>absurd h n10,fun _=>hland⟩⟩⟩
  ·rw [he] at h
   have h0:34 = e0:=(List.cons.inj h).1
   rw [← h0] at hge
   exact absurd hge (by decide)
  ·rw [tbl_miss (fun h=>absurd h (by decide)),tbl_miss (fun h=>absurd h (by decide)),tbl_miss (fun h=>absurd h (by decide)),tbl_miss (fun h=>absurd h (by decide)),tbl_hit,he]
   simp only [s169]
   have hsz:=d8 (by omega)
   obtain ⟨l2,l3,l4⟩:=hlen (by omega)
   have hu:u.length + 1 = d.2:=by
    rcases hsz with ⟨a,b⟩ | ⟨a,b,c⟩ | ⟨a,b⟩
    ·rw [l2 b]; omega
    ·rw [l3 b c]; omega
    ·rw [l4 b]; omega
   rw [if_pos ⟨by simp only [List.length_cons]; omega,by simp only [List.length_cons]; omega,by simp only [List.length_cons,List.length_nil]; omega⟩,idx_none hge]
theorem p168 (m:Int) (bs:List UInt8) (hne:bs ≠ []) (hl:bs.length≤1000000):PureOk PQ (GQ m) XA (tbl [(194,s194)]) (itbl []) (a168 bs) [] 168 [.sl 1 (bytesL bs) .no] (decA bs,[]):=by
 constructor
 rw [w168]; unfold I6
 have hlen:0 < bs.length:=List.length_pos_iff.2 hne
 simp only [callIs_iff,valsAre_iff,stIs_iff,retIs_iff,bytesL_length,Prod.mk.injEq,AV.int.injEq,AV.tup.injEq,List.cons.injEq,and_true,true_and,and_self,decide_eq_true_eq,decide_eq_false_iff_not,true_implies]
 refine ⟨⟨(),trivial⟩,fun _=>⟨fun _=>⟨by omega,_,u8at (i:=0) hlen,fun hlo=>?_,fun hhi=>?_⟩,fun h=>by omega⟩⟩
 ·rw [decodeL_eq,Lib.decodeN,if_pos (by omega)]
  exact ⟨wrap32_in (by omega) (by omega),rfl⟩
 ·refine ⟨_,_,?_,rfl,rfl⟩
  rw [tbl_hit]
  simp only [s194,onBs,onBytes,unBytes_mk,if_true]
  have hh:hiB bs:=by
   cases bs with
   | nil=>exact absurd rfl hne
   | cons c t=>exact ⟨c,t,rfl,by simp at hhi; omega⟩
  rw [if_pos ⟨hh,hl⟩]
  rfl
theorem p167 (m c:Int) (h0:0≤c) (h1:c < 256):OpenOk PQ (GQ m) XA (tbl []) (itbl []) nAn [] 167 [.ptr 0 0,.int .u8 c] ⟨[some keptSet],[]⟩ (.bool (decide (c = 10∨c = 34)),⟨[some keptSet],[]⟩):=by
 constructor
 rw [w167]
 refine ⟨⟨h0,h1⟩,decide (c = 10∨c = 34),?_,fun h=>⟨rfl,by rw [h]⟩,fun h=>⟨rfl,by rw [h]⟩⟩
 have hlt:c.toNat < 256:=by omega
 simp only [takeA,Nat.zero_add,Nat.mul_one,keptSet,List.getElem?_map,List.getElem?_range hlt,Option.map_some]
 have e:decide (c.toNat = 10∨c.toNat = 34) = decide (c = 10∨c = 34):=decide_eq_decide.2 (by omega)
 rw [e]
set_option maxRecDepth 100000 in
theorem run166 (m:Int):(evs PQ (GQ m) (tbl lib8) (fun _=>[]) 60).1 166 [.str [34,10]] = some (.tup [keptSetA,.bool true],[]):=by kernel_rfl
theorem o166 (m:Int):SpecOk PQ (GQ m) 166 s166:=spec_run mixedQ (lib8_ok m) fun args r h=>by
 unfold s166 at h
 split at h
 ·injection h with h; subst h; exact ⟨60,run166 m⟩
 ·cases h
theorem o165 (m:Int):SpecOk PQ (GQ m) 165 s165:=spec_of (X:=XA) (m:=[]) mixedQ tbl_nil itbl_nil fun args r h=>by
 unfold s165 at h
 split at h
 ·injection h with h; subst h; exact ⟨nAn,p165 m _⟩
 ·cases h
theorem onBs_some {f:List UInt8→Option (AV × List (Nat × TypeId))} {args:List AV} {r:AV × List (Nat × TypeId)} (h:onBs f args = some r):∃ bs,args = [.sl 1 (bytesL bs) .no]∧f bs = some r:=by
 unfold onBs at h
 split at h
 ·split at h
  ·rename_i hsz
   subst hsz
   unfold onBytes at h
   split at h
   ·rename_i bs hb
    obtain rfl:=unBytes_some hb
    exact ⟨bs,rfl,h⟩
   ·cases h
  ·cases h
 ·cases h
theorem o194 (m:Int):SpecOk PQ (GQ m) 194 s194:=spec_of (X:=XA) (m:=[]) mixedQ tbl_nil itbl_nil fun args r h=>by
 obtain ⟨bs,rfl,h2⟩:=onBs_some h
 clear h
 split at h2
 ·rename_i hc; injection h2 with h2; subst h2; exact ⟨nAn,p194 m _ hc.1 hc.2⟩
 ·cases h2
theorem o168 (m:Int):SpecOk PQ (GQ m) 168 s168:=spec_of (X:=XA) (m:=[]) mixedQ (tbl_cons (o194 m) tbl_nil) itbl_nil fun args r h=>by
 obtain ⟨bs,rfl,h2⟩:=onBs_some h
 clear h
 split at h2
 ·rename_i hc; injection h2 with h2; subst h2; exact ⟨a168 bs,p168 m _ hc.1 hc.2⟩
 ·cases h2
theorem o167 (m:Int):ISpecOk PQ (GQ m) 167 s167:=ispec_of (X:=XA) (m:=[]) mixedQ tbl_nil itbl_nil fun args S p r h hp=>by
 unfold s167 at h
 split at h
 ·simp only [Option.some.injEq,Prod.mk.injEq] at h
  obtain ⟨h1,h2⟩:=h
  subst h1
  obtain ⟨rfl,k1,k2⟩:=hp
  rw [← h2]
  exact ⟨nAn,p167 m _ k1 k2⟩
 ·cases h
theorem o169 (m:Int):SpecOk PQ (GQ m) 169 (s169 m):=by
 intro g args r lv h E w vs hI hG hn' hv hcl
 simp only at h
 split at h
 case isFalse=>cases h
 case isTrue e =>
 subst e
 unfold s169 at h
 split at h
 case h_2=>cases h
 case h_1 a b =>
 split at h
 case isFalse=>cases h
 case isTrue hc =>
 simp only [Option.some.injEq,Prod.mk.injEq] at h
 obtain ⟨rfl,rfl⟩:=h
 obtain ⟨x,y,rfl⟩:=vs_two hn'
 obtain ⟨s,rfl,hs⟩:=rep_str (hv 0 _ _ rfl rfl)
 obtain ⟨t,rfl,ht⟩:=rep_str (hv 1 _ _ rfl rfl)
 have h1:s.size = a.length:=by rw [size_data,hs]
 have h2:t.size = b.length:=by rw [size_data,ht]
 refine .inr ⟨_,w,extern_value (fn:=Tryz.f169) (by kernel_rfl) (by kernel_rfl) (by kernel_rfl) (by kernel_rfl) (by kernel_rfl) (Lib.run_indexString s t w 0 m (by kernel_rfl) (glob_int hG rfl) (by omega) (by omega) (by omega)),_,rfl,res_same fun B K=>?_⟩
 rw [hs,ht]
 exact .int _ _
theorem o130 (m:Int):SpecOk PQ (GQ m) 130 s130:=spec_of (X:=XA) (m:=[]) mixedQ (tbl_cons (o_indexByteString (f:=163) (fn:=Tryz.f163) (by kernel_rfl) (by kernel_rfl) (by kernel_rfl) (by kernel_rfl) (by kernel_rfl)) (tbl_cons (o165 m) (tbl_cons (o166 m) (tbl_cons (o168 m) (tbl_cons (o169 m) tbl_nil))))) (itbl_cons (o167 m) itbl_nil) fun args r h=>by
 unfold s130 at h
 split at h
 ·split at h
  ·rename_i hsz
   subst hsz
   unfold onBytes at h
   split at h
   ·rename_i bs hb
    obtain rfl:=unBytes_some hb
    simp only at h
    split at h
    ·rename_i hl
     injection h with h; subst h; exact ⟨a130 bs,p130 m bs hl⟩
    ·cases h
   ·cases h
  ·cases h
 ·cases h
end Go.Abs.Lx
namespace Go.Abs.Lx
open Go.Proofs L8
theorem p200 (m n:Int):PureOk PQ (GQ m) XF (tbl []) (itbl []) ⟨nA,nA⟩ [] 200 [.int .u8 n] (.bool (decide (48≤n∧n≤57)),[]):=by
 constructor
 rw [w200]
 simp only [retIs_iff,Prod.mk.injEq,AV.bool.injEq,and_true,decide_eq_true_eq,decide_eq_false_iff_not]
 refine ⟨fun h1=>⟨fun h2=>(decide_eq_true (by omega)).symm,fun h2=>(decide_eq_false (by omega)).symm⟩,fun h1=>(decide_eq_false (by omega)).symm⟩
theorem dig_dec (c:UInt8):decide (48≤(c.toNat:Int)∧(c.toNat:Int)≤57) = digitB c:=by
 by_cases h:digitB c = true
 ·rw [h]; rw [digitB_iff] at h; exact decide_eq_true (by omega)
 ·have h':=h
  rw [digitB_iff] at h'
  rw [Bool.not_eq_true] at h; rw [h]; exact decide_eq_false (by omega)
theorem eq45 (c:UInt8):((c.toNat:Int) = 45) ↔ c = 45:=nat_eq_u8 (k:=45) (by omega)
theorem eq46 (c:UInt8):((c.toNat:Int) = 46) ↔ c = 46:=nat_eq_u8 (k:=46) (by omega)
theorem sAtOpt {l:List UInt8} {i:Nat} (h:i < l.length):l[i]? = some (l.getD i 0):=by
 simp [List.getElem?_eq_getElem h]
theorem p210 (m:Int) (l:List UInt8) (a:Nat) (ha:a≤l.length) (hl:l.length≤1000000):PureOk PQ (GQ m) XF (tbl [(200,s200)]) (itbl []) (a210 l a) [] 210 [.str l,.int .i64 a] (.int .i64 ((l.drop a).takeWhile digitB).length,[]):=by
 constructor
 rw [w210]; unfold I6
 have htw:=tw_le (p:=digitB) (l.drop a)
 rw [List.length_drop] at htw
 simp only [callIs_iff,dig_dec,valsAre_iff,stIs_iff,retIs_iff,Option.some.injEq,Prod.mk.injEq,AV.bool.injEq,AV.int.injEq,List.cons.injEq,and_true,true_and,decide_eq_true_eq,decide_eq_false_iff_not]
 refine ⟨⟨0,rfl,by omega⟩,fun x hx=>?_⟩
 rw [wrap64_in (n:=(a:Int) + x) (by omega) (by omega),wrap64_in (n:=(x:Int) + 1) (by omega) (by omega),show ((a:Int) + x).toNat = a + x by omega]
 refine ⟨fun hlt=>⟨by omega,_,sAtOpt (i:=a + x) (by omega),_,rfl,fun hd=>?_,fun hd=>?_⟩,fun hge=>?_⟩
 ·exact ⟨x + 1,by omega,tw_next hx (by rw [List.length_drop]; omega) (by rw [getD_drop']; exact hd),by omega⟩
 ·have:=tw_stop (p:=digitB) (l:=l.drop a) (k:=x) hx (fun _=>by rw [getD_drop']; exact hd)
  omega
 ·have:=tw_stop (p:=digitB) (l:=l.drop a) (k:=x) hx (fun h=>by rw [List.length_drop] at h; omega)
  omega
theorem restB_drop (s:List UInt8):restB s = s.drop (dAt s):=by
 unfold restB dAt
 split <;> simp
theorem p199 (m:Int) (s:List UInt8) (hl:s.length≤1000000):PureOk PQ (GQ m) XF (tbl [(210,s210)]) (itbl []) (a199 s) [] 199 [.str s] (.bool (formP s),[]):=by
 constructor
 rw [w199]; unfold I6
 have t81:∀ a:Nat,a≤s.length→tbl [(210,s210)] 210 [.str s,.int .i64 (a:Nat)] = some (.int .i64 ((s.drop a).takeWhile digitB).length,[]):=fun a ha=>by
  rw [tbl_hit]; simp only [s210]; rw [if_pos ⟨by omega,by simpa using ha,hl⟩,Int.toNat_natCast]
 have hd:dAt s≤s.length∧dAt s≤1:=by
  unfold dAt negB
  cases s with
  | nil=>exact ⟨by simp,by simp⟩
  | cons c t=>split <;> exact ⟨by simp,by omega⟩
 have htw:=tw_le (p:=digitB) (s.drop (dAt s))
 rw [List.length_drop] at htw
 simp only [callIs_iff,valsAre_iff,stIs_iff,retIs_iff,Prod.mk.injEq,AV.bool.injEq,AV.int.injEq,List.cons.injEq,and_true,true_and,decide_eq_true_eq,decide_eq_false_iff_not,beq_iff_eq,beq_eq_false_iff_ne,ne_eq,gt_iff_lt,ge_iff_le,true_implies]
 have hneg:∀ c,s[0]? = some c→((c.toNat:Int) = 45 ↔ negB s = true):=fun c hc=>by
  cases s with
  | nil=>simp at hc
  | cons x t =>
   simp at hc; subst hc
   rw [eq45]
   simp [negB]
 refine ⟨⟨fun h=>⟨by omega,_,sAtOpt (i:=0) (by omega),fun h'=>⟨(),?_⟩,fun h'=>⟨(),?_⟩⟩,fun h=>⟨(),?_⟩⟩,fun _=>?_⟩
 ·rw [hneg _ (sAtOpt (by omega))] at h'
  simp [dAt,h']
 ·rw [hneg _ (sAtOpt (by omega))] at h'
  simp [dAt,h']
 ·have:s = []:=List.length_eq_zero_iff.1 (by omega)
  subst this; rfl
 ·refine ⟨_,t81 _ hd.1,?_⟩
  have hr:=restB_drop s
  simp only [formP,formR,hr]
  generalize hn:((s.drop (dAt s)).takeWhile digitB).length = n at *
  generalize hdd:dAt s = d at *
  refine ⟨fun h=>?_,fun h=>⟨fun h1=>?_,fun h1=>?_⟩⟩
  ·have:n = 0:=by omega
   simp [this]
  ·rw [wrap64_in (by omega) (by omega)] at h1
   have:n = (s.drop d).length:=by rw [List.length_drop]; omega
   have h0:n ≠ 0:=by omega
   simp [← this,h0]
  ·rw [wrap64_in (by omega) (by omega)] at h1
   have hne:n ≠ (s.drop d).length:=by rw [List.length_drop]; omega
   have hlt:d + n < s.length:=by
    have:n≤s.length - d:=htw
    omega
   rw [wrap64_in (n:=(d:Int) + n) (by omega) (by omega),wrap64_in (n:=(d:Int) + n + 1) (by omega) (by omega)]
   have e1:((d:Int) + n + 1) = ((d + n + 1:Nat):Int):=by omega
   have e2:((d:Int) + n).toNat = d + n:=by omega
   refine ⟨_,by rw [e1]; exact t81 _ (by omega),by omega,_,by rw [e2]; exact sAtOpt (i:=d + n) (by omega),?_⟩
   rw [eq46]
   have e3:(s.drop d).drop (n + 1) = s.drop (d + n + 1):=by rw [List.drop_drop]; congr 1
   have e4:(s.drop d)[n]? = some (s.getD (d + n) 0):=by rw [List.getElem?_drop]; exact sAtOpt hlt
   have htw2:=tw_le (p:=digitB) (s.drop (d + n + 1))
   rw [List.length_drop] at htw2
   rw [e3,e4]
   have h0:n ≠ 0:=by omega
   generalize ((s.drop (d + n + 1)).takeWhile digitB).length = q at *
   rw [wrap64_in (n:=(d:Int) + n + 1 + q) (by omega) (by omega)]
   have hL:(s.drop d).length = s.length - d:=List.length_drop
   have hne':¬ n = s.length - d:=by omega
   rw [hL]
   clear e4
   generalize s.getD (d + n) 0 = c0
   refine ⟨fun c1=>⟨fun c2=>⟨fun c3=>⟨fun c4=>?_,fun c4=>?_⟩,fun c3=>?_⟩,fun c2=>?_⟩,fun c1=>?_⟩
   ·have c4':n + 1 + q = s.length - d:=by omega
    have c2':1≤q:=by omega
    have c3':q≤6:=by omega
    simp [h0,c1,c4',c2',c3']
   ·have c4':¬ n + 1 + q = s.length - d:=by omega
    simp [hne',c4']
   ·have c3':¬ q≤6:=by omega
    simp [hne',c3']
   ·have c2':¬ 1≤q:=by omega
    simp [hne',c2']
   ·simp [hne',c1]
theorem xfold_succ {s:List UInt8} {i:Nat} (h:i < s.length):xfold (s.take (i + 1)) = xstep (xfold (s.take i)) (s.getD i 0):=by
 unfold xfold
 rw [List.take_succ_eq_append_getElem h,List.foldl_append]
 simp [List.getElem?_eq_getElem h]
theorem bfold_succ {s:List UInt8} {i:Nat} (h:i < s.length):bfold (s.take (i + 1)) = bstep (bfold (s.take i)) (s.getD i 0):=by
 unfold bfold
 rw [List.take_succ_eq_append_getElem h,List.foldl_append]
 simp [List.getElem?_eq_getElem h]
theorem bfold_le:∀ (s:List UInt8) (i:Nat),i≤s.length→-1≤bfold (s.take i)∧bfold (s.take i)≤i
 | s,0,_=>by simp [bfold]
 | s,i + 1,h=>by
  have ih:=bfold_le s i (by omega)
  rw [bfold_succ (by omega)]
  unfold bstep
  repeat' split
  all_goals omega
theorem xstep_le {x:Nat} (h:x≤capM) (c:UInt8):xstep x c≤capM:=by
 unfold xstep
 split
 ·exact Nat.min_le_right _ _
 ·exact h
theorem xfold_le (s:List UInt8):xfold s≤capM:=by
 unfold xfold
 have:∀ (l:List UInt8) (x:Nat),x≤capM→l.foldl xstep x≤capM:=by
  intro l
  induction l with
  | nil=>exact fun x h=>h
  | cons c l ih=>exact fun x h=>ih _ (xstep_le h c)
 exact this s 0 (by decide)
theorem xmore_le {x:Nat} (h:x≤capM):∀ n,xmore x n≤capM
 | 0=>h
 | _n + 1=>Nat.min_le_right _ _
theorem xstep_dig {x:Nat} {c:UInt8} (_hx:x≤capM) (hc:digitB c = true):(min (IntKind.i64.wrap (IntKind.i64.wrap (10 * min (x:Int) 115292150460684698) + IntKind.i64.wrap (IntKind.u8.wrap ((c.toNat:Int) - 48)))) 1152921504606846977:Int) = (xstep x c:Nat):=by
 have h:=digitB_iff.1 hc
 rw [wrap8_in (n:=(c.toNat:Int) - 48) (by omega) (by omega),wrap64_in (n:=(c.toNat:Int) - 48) (by omega) (by omega),wrap64_in (n:=10 * min (x:Int) 115292150460684698) (by omega) (by omega),wrap64_in (by omega) (by omega)]
 simp only [xstep,hc,if_true,capM]
 omega
theorem xmore_step {x:Nat} {n:Nat}:(min (IntKind.i64.wrap (10 * min (xmore x n:Int) 115292150460684698)) 1152921504606846977:Int) = (xmore x (n + 1):Nat):=by
 rw [wrap64_in (by omega) (by omega)]
 simp only [xmore,capM]
 omega
theorem bfold_whole (s:List UInt8):-1≤bfold s∧bfold s≤s.length:=by
 have:=bfold_le s s.length (Nat.le_refl _)
 rw [List.take_length] at this
 exact this
theorem p178 (m:Int) (s:List UInt8) (hl:s.length≤1000000):PureOk PQ (GQ m) XF (tbl [(199,s199),(200,s200)]) (itbl []) (a178 s) [] 178 [.str s] (.tup [.int .i64 (refP s).1,.int .i64 (refP s).2],[]):=by
 constructor
 rw [w178]; unfold w178c4 w178c3 w178c2 w178c1 I6
 have t72:tbl [(199,s199),(200,s200)] 199 [.str s] = some (.bool (formP s),[]):=by rw [tbl_hit]; simp only [s199]; rw [if_pos hl]
 simp only [callIs_iff,t72,dig_dec,valsAre_iff,stIs_iff,retIs_iff,Option.some.injEq,Prod.mk.injEq,AV.bool.injEq,AV.int.injEq,AV.tup.injEq,List.cons.injEq,and_true,true_and,decide_eq_true_eq,decide_eq_false_iff_not,Int.toNat_natCast,beq_iff_eq,beq_eq_false_iff_ne,ne_eq,gt_iff_lt,ge_iff_le,true_implies,tf_imp,eq46,eq45]
 have hbw:=bfold_whole s
 have land:∀ (x:Nat) (v b:Int),x < s.length→v = (xfold (s.take (x + 1)):Nat)→b = bfold (s.take (x + 1))→∃ y:Nat,(v = (xfold (s.take y):Nat)∧b = bfold (s.take y)∧IntKind.i64.wrap ((x:Int) + 1) = y)∧y≤s.length∧s.length - y < s.length - x:=fun x v b hlt h1 h2 =>
  ⟨x + 1,⟨h1,h2,by rw [wrap64_in (by omega) (by omega)]; rfl⟩,by omega,by omega⟩
 refine ⟨_,rfl,fun hf=>⟨⟨0,by simp [xfold,bfold]⟩,fun x hx=>⟨fun hlt=>⟨by omega,_,sAtOpt (i:=x) (by omega),fun h46=>⟨by omega,_,sAtOpt (i:=x) (by omega),_,rfl,fun hd=>?_,fun hd=>?_⟩,fun h46=>⟨by omega,_,sAtOpt (i:=x) (by omega),_,rfl,fun hd=>⟨by omega,_,sAtOpt (i:=x) (by omega),fun hb=>?_,fun hb=>?_⟩,fun hd=>?_⟩⟩,fun hge=>?_⟩⟩,fun hf=>?_⟩
 ·rw [h46] at hd; exact absurd hd (by decide)
 ·refine land x _ _ (by omega) ?_ ?_
  ·rw [xfold_succ (by omega),xstep,hd]; rfl
  ·rw [bfold_succ (by omega),bstep,if_pos h46]
 ·have hbl:=bfold_le s x hx
  refine land x _ _ (by omega) ?_ ?_
  ·rw [xfold_succ (by omega)]; exact xstep_dig (xfold_le _) hd
  ·rw [bfold_succ (by omega),bstep,if_neg h46,if_pos hd,if_pos hb,wrap64_in (by omega) (by omega)]
 ·refine land x _ _ (by omega) ?_ ?_
  ·rw [xfold_succ (by omega)]; exact xstep_dig (xfold_le _) hd
  ·rw [bfold_succ (by omega),bstep,if_neg h46,if_pos hd,if_neg hb]
 ·refine land x _ _ (by omega) ?_ ?_
  ·rw [xfold_succ (by omega),xstep,hd]; rfl
  ·rw [bfold_succ (by omega),bstep,if_neg h46,if_neg (by rw [hd]; decide)]
 ·have hxl:x = s.length:=by omega
  subst hxl
  rw [List.take_length]
  refine ⟨⟨0,by simp [xmore]⟩,fun j hj=>⟨fun hlt=>⟨j + 1,⟨xmore_step,?_⟩,by omega,by omega⟩,fun hge=>?_⟩⟩
  ·rw [wrap64_in (by omega) (by omega)]; simp; omega
  ·have hje:j = (6 - max (bfold s) 0).toNat:=by omega
   have hne:0 < s.length:=by
    cases s with
    | nil=>simp [formP,formR,restB,negB] at hf
    | cons c t=>simp
   have hcap:=xmore_le (xfold_le s) j
   simp only [refP,hf,← hje,Bool.true_eq_false,if_false]
   have h45:(s.head? = some 45) ↔ s.getD 0 0 = 45:=by
    cases s with
    | nil=>simp at hne
    | cons c t=>simp
   refine ⟨fun hgt=>?_,fun hle=>⟨by omega,_,sAtOpt (i:=0) hne,fun h=>?_,fun h=>?_⟩⟩
   ·rw [if_pos (by unfold capM; omega)]; exact ⟨rfl,rfl⟩
   ·rw [if_neg (by unfold capM; omega)]
    simp only [h45,h,if_true]
    rw [wrap64_in (by omega) (by omega)]
    exact ⟨by omega,trivial⟩
   ·rw [if_neg (by unfold capM; omega)]
    simp only [h45,h,if_false]
    trivial
 ·simp only [refP,hf,if_true]; trivial
end Go.Abs.Lx
namespace Go.Abs.Lx
open Go.Proofs L8
theorem dfold_snoc (l:List UInt8) (c:UInt8):dfold (l ++ [c]) = dstep (dfold l) c:=by unfold dfold; rw [List.foldl_append]; rfl
theorem all_snoc {l:List UInt8} {c:UInt8} (h:l.all digitB = true) (hc:digitB c = true):(l ++ [c]).all digitB = true:=by simp [List.all_append,h,hc]
theorem dfold_shape:∀ (n:Nat) (r:List UInt8),r.length = n→∀ ds k,dfold r = some (ds,k)→(k = none∧ds = r∧r.all digitB = true)∨(∃ a b,r = a ++ 46 :: b∧a ≠ []∧a.all digitB = true∧b.all digitB = true∧ds = a ++ b∧k = some b.length):=by
 intro n
 induction n with
 | zero =>
  intro r hr ds k h
  have:r = []:=List.length_eq_zero_iff.1 hr
  subst this
  simp [dfold] at h
  exact .inl ⟨h.2.symm,h.1,rfl⟩
 | succ n ih =>
  intro r hr ds k h
  have hne:r ≠ []:=by rintro rfl; simp at hr
  obtain ⟨l,c,rfl⟩:∃ l c,r = l ++ [c]:=⟨r.dropLast,r.getLast hne,(List.dropLast_concat_getLast hne).symm⟩
  rw [dfold_snoc] at h
  have hl:l.length = n:=by simp at hr; exact hr
  cases hd:dfold l with
  | none=>rw [hd] at h; simp [dstep] at h
  | some p =>
   obtain ⟨ds',k'⟩:=p
   rw [hd] at h
   have hs:=ih l hl ds' k' hd
   simp only [dstep] at h
   split at h
   ·rename_i hc
    obtain ⟨rfl,rfl,hne'⟩:=hc
    simp only [Option.some.injEq,Prod.mk.injEq] at h
    obtain ⟨rfl,rfl⟩:=h
    rcases hs with ⟨_,rfl,ha⟩ | ⟨a,b,_,_,_,_,_,hk⟩
    ·exact .inr ⟨ds',[],rfl,hne',ha,rfl,by simp,rfl⟩
    ·cases hk
   ·split at h
    ·rename_i hdg
     simp only [Option.some.injEq,Prod.mk.injEq] at h
     obtain ⟨rfl,rfl⟩:=h
     rcases hs with ⟨rfl,rfl,ha⟩ | ⟨a,b,rfl,h1,h2,h3,rfl,rfl⟩
     ·exact .inl ⟨rfl,rfl,all_snoc ha hdg⟩
     ·exact .inr ⟨a,b ++ [c],by simp,h1,h2,all_snoc h3 hdg,by simp,by simp⟩
    ·cases h
theorem tw_all {a:List UInt8} (h:a.all digitB = true):a.takeWhile digitB = a:=by
 induction a with
 | nil=>rfl
 | cons c t ih =>
  simp only [List.all_cons,Bool.and_eq_true] at h
  rw [List.takeWhile_cons,if_pos h.1,ih h.2]
theorem tw_split {a b:List UInt8} (h:a.all digitB = true):(a ++ 46 :: b).takeWhile digitB = a:=by
 induction a with
 | nil=>simp [digitB]
 | cons c t ih =>
  simp only [List.all_cons,Bool.and_eq_true] at h
  rw [List.cons_append,List.takeWhile_cons,if_pos h.1,ih h.2]
theorem drop_split {a b:List UInt8}:(a ++ 46 :: b).drop (a.length + 1) = b:=by
 rw [List.drop_append]; simp
theorem formR_dig {r:List UInt8} (h:r.all digitB = true):formR r = decide (r ≠ []):=by
 simp only [formR,tw_all h]
 cases r <;> simp
theorem formR_point {a b:List UInt8} (ha:a.all digitB = true) (hne:a ≠ []) (hb:b.all digitB = true):formR (a ++ 46 :: b) = (decide (1≤b.length) && decide (b.length≤6)):=by
 have h0:a.length ≠ 0:=fun h=>hne (List.length_eq_zero_iff.1 h)
 simp only [formR,tw_split ha,drop_split,tw_all hb]
 have e:(a ++ 46 :: b)[a.length]? = some 46:=by simp
 have e2:(a ++ 46 :: b).length = a.length + 1 + b.length:=by simp; omega
 rw [e,e2]
 have e3:¬ a.length = a.length + 1 + b.length:=by omega
 simp [h0,e3]
theorem formR_shape {r:List UInt8} (h:formR r = true):(r.all digitB = true∧r ≠ [])∨∃ a b,r = a ++ 46 :: b∧a ≠ []∧a.all digitB = true∧b.all digitB = true∧1≤b.length∧b.length≤6:=by
 simp only [formR,Bool.and_eq_true,Bool.or_eq_true,decide_eq_true_eq] at h
 have hall:=takeWhile_all digitB r
 have hpre:r.takeWhile digitB = r.take (r.takeWhile digitB).length:=(List.prefix_iff_eq_take.1 (List.takeWhile_prefix digitB))
 obtain ⟨h0,h | ⟨⟨⟨h1,h2⟩,h3⟩,h4⟩⟩:=h
 ·rw [h,List.take_length] at hpre
  rw [hpre] at hall
  exact .inl ⟨hall,fun e=>h0 (by rw [e]; rfl)⟩
 ·generalize hn:(r.takeWhile digitB).length = n at *
  have hlt:=(List.getElem?_eq_some_iff.1 h1).1
  have hv:=(List.getElem?_eq_some_iff.1 h1).2
  have hall2:=takeWhile_all digitB (r.drop (n + 1))
  have hpre2:(r.drop (n + 1)).takeWhile digitB = (r.drop (n + 1)).take ((r.drop (n + 1)).takeWhile digitB).length:=(List.prefix_iff_eq_take.1 (List.takeWhile_prefix digitB))
  have e2:(r.drop (n + 1)).takeWhile digitB = r.drop (n + 1):=by
   rw [hpre2]
   exact List.take_of_length_le (by rw [List.length_drop]; omega)
  rw [e2] at hall2 h2 h3
  refine .inr ⟨r.takeWhile digitB,r.drop (n + 1),?_,fun e=>h0 (by rw [← hn,e]; rfl),hall,hall2,h2,h3⟩
  conv=>lhs; rw [← List.take_append_drop n r,List.drop_eq_getElem_cons hlt,hv]
  rw [hpre]
theorem decR_bad {neg:Bool} {r:List UInt8} (h:formR r = false):decR neg r = (0,3):=by
 unfold decR
 split
 ·rfl
 ·rename_i ds k hd
  split
  ·rfl
  ·rename_i hc
   simp only [not_or] at hc
   rcases dfold_shape _ r rfl ds k hd with ⟨rfl,rfl,ha⟩ | ⟨a,b,rfl,h1,h2,h3,rfl,rfl⟩
   ·rw [formR_dig ha] at h
    simp at h
    exact absurd h hc.1
   ·rw [formR_point h2 h1 h3] at h
    simp only [Option.getD_some,Option.some.injEq] at hc
    have g1:1≤b.length:=by have:=hc.2.1; omega
    have g2:b.length≤6:=by have:=hc.2.2; omega
    simp [g1,g2] at h
theorem xfold_dig:∀ (l:List UInt8) (v:Nat),l.all digitB = true→l.foldl xstep (min v capM) = min (valF v l) capM
 | [],v,_=>rfl
 | c :: l,v,h=>by
  simp only [List.all_cons,Bool.and_eq_true] at h
  have hc:=digitB_iff.1 h.1
  have e:xstep (min v capM) c = min (10 * v + (c.toNat - 48)) capM:=by
   simp only [xstep,h.1,if_true,capM]; omega
  rw [List.foldl_cons,e,xfold_dig l _ h.2]
  rfl
theorem xstep_other {x:Nat} {c:UInt8} (h:digitB c = false):xstep x c = x:=by simp [xstep,h]
theorem xmore_eq (v:Nat):∀ n,xmore (min v capM) n = min (v * 10 ^ n) capM
 | 0=>by simp [xmore]
 | n + 1=>by
  have ih:=xmore_eq v n
  simp only [xmore,ih,Nat.pow_succ,← Nat.mul_assoc]
  generalize v * 10 ^ n = u
  simp only [capM]
  omega
theorem bfold_dig:∀ (l:List UInt8) (k:Int),l.all digitB = true→l.foldl bstep k = if 0≤k then k + l.length else k
 | [],k,_=>by simp
 | c :: l,k,h=>by
  simp only [List.all_cons,Bool.and_eq_true] at h
  have hc:¬ c = 46:=by rintro rfl; exact absurd h.1 (by decide)
  have e:bstep k c = if 0≤k then k + 1 else k:=by unfold bstep; rw [if_neg hc,if_pos h.1]
  rw [List.foldl_cons,e,bfold_dig l _ h.2]
  by_cases hk:0≤k
  ·rw [if_pos hk,if_pos hk,if_pos (by omega),List.length_cons]; omega
  ·rw [if_neg hk,if_neg hk,if_neg hk]
theorem capM_val:capM = 2 ^ 60 + 1:=rfl
theorem folds (s:List UInt8):xfold s = xfold (restB s)∧bfold s = bfold (restB s)∧(s.head? = some 45 ↔ negB s = true):=by
 cases s with
 | nil=>exact ⟨rfl,rfl,by simp [negB]⟩
 | cons c t =>
  by_cases h:c = 45
  ·subst h
   have e:restB (45 :: t) = t:=rfl
   rw [e]
   exact ⟨rfl,rfl,by simp [negB]⟩
  ·have e:restB (c :: t) = c :: t:=by simp [restB,negB,h]
   rw [e]
   exact ⟨rfl,rfl,by simp [negB]⟩
theorem refP_eq (s:List UInt8):refP s = decP s:=by
 have hdec:decP s = decR (negB s) (restB s):=rfl
 obtain ⟨f1,f2,f3⟩:=folds s
 by_cases hf:formR (restB s) = true
 ·have fin:∀ (v k:Nat),xfold (restB s) = min v capM→(6 - max (bfold (restB s)) 0).toNat = 6 - k→refP s = decFin (negB s) v k:=fun v k h1 h2=>by
   have hfp:formP s = true:=hf
   simp only [refP,hfp,Bool.true_eq_false,if_false,f1,f2,h1,h2,xmore_eq,decFin]
   by_cases hgt:2 ^ 60 < v * 10 ^ (6 - k)
   ·rw [if_pos hgt,if_pos (by rw [capM_val]; omega)]
   ·rw [if_neg hgt,if_neg (by rw [capM_val]; omega),Nat.min_eq_left (by rw [capM_val]; omega)]
    simp only [f3]
  rw [hdec]
  rcases formR_shape hf with ⟨ha,hne⟩ | ⟨a,b,hr,hne,ha,hb,h1,h6⟩
  ·have hd:dfold (restB s) = some (restB s,none):=by
    unfold dfold; rw [dfold_digits _ [] none ha]; simp
   have hx:xfold (restB s) = min (valX (restB s)) capM:=xfold_dig (restB s) 0 ha
   have hb':bfold (restB s) = -1:=by unfold bfold; rw [bfold_dig _ _ ha]; rfl
   rw [fin _ 0 hx (by rw [hb']; rfl),decR,hd]
   simp [hne]
  ·have hd:dfold (restB s) = some (a ++ b,some b.length):=by rw [hr]; exact dfold_point ha hne hb
   have hx:xfold (restB s) = min (valX (a ++ b)) capM:=by
    unfold xfold
    rw [hr,List.foldl_append,List.foldl_cons]
    have e1:=xfold_dig a 0 ha
    have e0:min 0 capM = 0:=by decide
    rw [e0] at e1
    rw [e1,xstep_other (by decide),xfold_dig b _ hb,valL_eq,valF_append]
   have hb':bfold (restB s) = b.length:=by
    unfold bfold
    rw [hr,List.foldl_append,List.foldl_cons,bfold_dig _ _ ha]
    have e:∀ k,bstep k 46 = 0:=fun k=>by simp [bstep]
    rw [e,bfold_dig _ _ hb]; simp
   rw [fin _ b.length hx (by rw [hb']; omega),decR,hd]
   have hno:¬ (a ++ b = []∨some b.length = some 0∨6 < (some b.length).getD 0):=by
    rintro (h | h | h)
    ·simp [hne] at h
    ·simp only [Option.some.injEq] at h; omega
    ·simp only [Option.getD_some] at h; omega
   simp only [hno,if_false]
   rfl
 ·rw [Bool.not_eq_true] at hf
  rw [hdec,decR_bad hf]
  have hfp:formP s = false:=hf
  simp [refP,hfp]
theorem o200 (m:Int):SpecOk PQ (GQ m) 200 s200:=spec_of (X:=XF) (m:=[]) mixedQ tbl_nil itbl_nil fun args r h=>by
 unfold s200 at h
 split at h
 ·injection h with h; subst h; exact ⟨⟨nA,nA⟩,p200 m _⟩
 ·cases h
theorem o210 (m:Int):SpecOk PQ (GQ m) 210 s210:=spec_of (X:=XF) (m:=[]) mixedQ (tbl_cons (o200 m) tbl_nil) itbl_nil fun args r h=>by
 unfold s210 at h
 split at h
 ·rename_i l n
  split at h
  ·rename_i hc
   injection h with h; subst h
   obtain ⟨k,rfl⟩:∃ k:Nat,n = k:=⟨n.toNat,by omega⟩
   rw [Int.toNat_natCast] at hc ⊢
   exact ⟨a210 l k,p210 m l k hc.2.1 hc.2.2⟩
  ·cases h
 ·cases h
theorem o199 (m:Int):SpecOk PQ (GQ m) 199 s199:=spec_of (X:=XF) (m:=[]) mixedQ (tbl_cons (o210 m) tbl_nil) itbl_nil fun args r h=>by
 unfold s199 at h
 split at h
 ·split at h
  ·rename_i hl
   injection h with h; subst h; exact ⟨a199 _,p199 m _ hl⟩
  ·cases h
 ·cases h
theorem o178 (m:Int):SpecOk PQ (GQ m) 178 s162:=spec_of (X:=XF) (m:=[]) mixedQ (tbl_cons (o199 m) (tbl_cons (o200 m) tbl_nil)) itbl_nil fun args r h=>by
 unfold s162 at h
 split at h
 ·split at h
  ·rename_i hl
   injection h with h; subst h
   have:=p178 m _ hl
   rw [refP_eq] at this
   exact ⟨a178 _,this⟩
  ·cases h
 ·cases h
theorem o47' (m:Int):SpecOk PQ (GQ m) 47 s36:=o47 m (o178 m)
theorem o36' (m:Int):SpecOk PQ (GQ m) 36 s36:=o36 m (o129' m) (o130 m)
end Go.Abs.Lx
namespace Go.Abs
open Go.Proofs
structure Tk where
 k:Int
 s:List UInt8
 a:Int
deriving DecidableEq
instance : Inhabited Tk := ⟨⟨0, [], 0⟩⟩
def tkA (t:Tk):AV:=.agg [.int .i64 t.k,.str t.s,.int .i64 t.a]
abbrev toksL (l:List Tk):List AV:=l.map tkA
def unTk:AV→Option Tk
 | .agg [.int .i64 k,.str s,.int .i64 a]=>some ⟨k,s,a⟩
 | _=>none
theorem unTk_ok (x:Tk):unTk (tkA x) = some x:=rfl
def hdT:List AV→Tk
 | a :: _=>(unTk a).getD default
 | []=>default
def wrongV (a c:Int):Value:=.iface 88 (.agg #[.int .i64 a,.int .i64 c])
def numV (s:List UInt8):Int:=if valL s≤9223372036854775807 then valL s else 1099511627777
/-! the plain parser: a syntax error is told by its place -/
def thn {α β:Type} (x:Except Int α) (f:α→Except Int β):Except Int β:=
 match x with
 | .ok a=>f a
 | .error e=>.error e
def everyB (_:List UInt8):Bool:=true
def nx (k:Int) (acc:List UInt8→Bool):List Tk→Except Int (List UInt8 × List Tk)
 | []=>.error 0
 | t :: l=>if t.k = k∧acc t.s = true then .ok (t.s,if k = 6 then t :: l else l) else .error t.a
def num (ts:List Tk):Except Int (Int × List Tk):=thn (nx 2 everyB ts) fun x=>.ok (numV x.1,x.2)
def isCm:List Tk→Bool
 | t :: _=>decide (t.k = 5) && (t.s == [44])
 | []=>false
def isAtB:List Tk→Bool
 | t :: _=>decide (t.k = 1) && (t.s == [97,116])
 | []=>false
def lab (ts:List Tk):Except Int (Lb × List Tk):=thn (nx 4 everyB ts) fun x=>thn (num x.2) fun y=>thn (num y.2) fun z=>.ok (⟨x.1,y.1,z.1⟩,z.2)
def moreF:List Tk→List (List UInt8)→Except Int (List (List UInt8) × List Tk)
 | t :: u :: l,fs=>if isCm [t] then (if u.k = 1∧nameR u.s = true then moreF l (fs ++ [u.s]) else .error u.a) else .ok (fs,t :: u :: l)
 | l,fs=>.ok (fs,l)
def moreL:List Tk→List Lb→Except Int (List Lb × List Tk)
 | t :: a :: b :: c :: l,ls=>if isCm [t] then (if a.k = 4 then (if b.k = 2 then (if c.k = 2 then moreL l (ls ++ [⟨a.s,numV b.s,numV c.s⟩]) else .error c.a) else .error b.a) else .error a.a) else .ok (ls,t :: a :: b :: c :: l)
 | [t,a,b],ls=>if isCm [t] then (if a.k = 4 then .error b.a else .error a.a) else .ok (ls,[t,a,b])
 | [t,a],ls=>if isCm [t] then .error a.a else .ok (ls,[t,a])
 | l,ls=>.ok (ls,l)
def k21 (r:Rq) (ts:List Tk):Except Int Rq:=thn (nx 6 everyB ts) fun _=>.ok r
def kMl (r:Rq) (ts:List Tk) (ls:List Lb):Except Int Rq:=thn (moreL ts ls) fun x=>k21 { r with labels:=x.1 } x.2
def k20 (r:Rq) (ts:List Tk):Except Int Rq:=thn (lab ts) fun x=>kMl r x.2 [x.1]
def k18 (r:Rq) (ts:List Tk):Except Int Rq:=if isAtB ts then k20 r ts.tail else k21 r ts
def k17 (r:Rq) (ts:List Tk):Except Int Rq:=thn (num ts) fun x=>k18 { r with permille:=x.1 } x.2
def k16 (r:Rq) (ts:List Tk):Except Int Rq:=thn (nx 1 (· == [107,101,101,112]) ts) fun x=>k17 r x.2
def k15 (r:Rq) (ts:List Tk):Except Int Rq:=thn (num ts) fun x=>k16 { r with seed:=x.1 } x.2
def k14 (r:Rq) (ts:List Tk):Except Int Rq:=thn (nx 1 (· == [115,101,101,100]) ts) fun x=>k15 r x.2
def kMf (r:Rq) (ts:List Tk) (fs:List (List UInt8)):Except Int Rq:=thn (moreF ts fs) fun x=>k14 { r with feats:=x.1 } x.2
def k13 (r:Rq) (ts:List Tk):Except Int Rq:=thn (nx 1 nameR ts) fun x=>kMf r x.2 [x.1]
def k12 (r:Rq) (ts:List Tk):Except Int Rq:=thn (nx 1 (· == [116,97,107,101]) ts) fun x=>k13 r x.2
def k11 (ts:List Tk):Except Int Rq:=thn (nx 1 nameR ts) fun x=>k12 ⟨x.1,[],[],0,0⟩ x.2
def parseTk (ts:List Tk):Except Int Rq:=thn (nx 1 (· == [111,102]) ts) fun x=>k11 x.2
def zRq:Rq:=⟨[],[],[],0,0⟩
def resP (x:Except Int Rq):AV:=
 match x with
 | .error a=>.tup [rqA zRq,.int .i64 a,.int .i64 90]
 | .ok r=>if formB r then .tup [rqA r,.int .i64 0,.int .i64 0] else .tup [rqA zRq,.int .i64 0,.int .i64 240]
/-! specs of the scanner -/
def pS (b0 b1 b2 es:List AV) (lv:List (Nat × TypeId)):St:=⟨[some b0,some b1,some b2,some [.sl 3 es .no],some [.ptr 3 0]],lv⟩
def pS6 (b0 b1 b2 es:List AV) (b5:Option (List AV)) (lv:List (Nat × TypeId)):St:=⟨[some b0,some b1,some b2,some [.sl 3 es .no],some [.ptr 3 0],b5],lv⟩
def oOk (n:Nat):Option (List AV)→Prop
 | some l=>l.all (AV.p1 n) = true
 | none=>True
structure TokIn (es:List AV):Prop where
 out:∃ t l,es = toksL (t :: l)
def pOk (n:Nat) (l:List AV):Prop:=l.all (AV.p1 n) = true
def accS (g:FuncId) (w:List UInt8):List UInt8→Bool:=if g = 40 then nameR else if g = 87 then (fun s=>s == w) else everyB
def nextOuts (k:Int) (acc:List UInt8→Bool) (es:List AV) (mk:List AV→St):List POut:=
 [⟨(hdT es).k = k∧acc (hdT es).s = true,none,.str (hdT es).s,mk (if k = 6 then es else es.drop 1)⟩,⟨¬ ((hdT es).k = k∧acc (hdT es).s = true),some (wrongV (hdT es).a 90),.tup [],mk es⟩]
def s39:PSpec:=fun args S=>match args,S with
 | [.ptr 3 0,.int .i64 k,.fn g []],⟨[some b0,some b1,some b2,some [.sl 3 es .no],some [.ptr 3 0]],lv⟩ =>
  if g = 40∨g = 45 then some (TokIn es∧pOk 5 b0∧pOk 5 b1∧pOk 5 b2,nextOuts k (accS g []) es fun e=>pS b0 b1 b2 e lv) else none
 | [.ptr 3 0,.int .i64 k,.fn g []],⟨[some b0,some b1,some b2,some [.sl 3 es .no],some [.ptr 3 0],some b5],lv⟩ =>
  if g = 45 then some (TokIn es∧pOk 6 b0∧pOk 6 b1∧pOk 6 b2∧pOk 6 b5,nextOuts k everyB es fun e=>pS6 b0 b1 b2 e (some b5) lv) else none
 | [.ptr 3 0,.int .i64 k,.fn g []],⟨[some b0,some b1,some b2,some [.sl 3 es .no],some [.ptr 3 0],none],lv⟩ =>
  if g = 45 then some (TokIn es∧pOk 6 b0∧pOk 6 b1∧pOk 6 b2,nextOuts k everyB es fun e=>pS6 b0 b1 b2 e none lv) else none
 | [.ptr 3 0,.int .i64 k,.fn g [.ptr 5 0]],⟨[some b0,some b1,some b2,some [.sl 3 es .no],some [.ptr 3 0],some [.str w]],lv⟩ =>
  if g = 87 then some (TokIn es∧pOk 6 b0∧pOk 6 b1∧pOk 6 b2,nextOuts k (fun s=>s == w) es fun e=>pS6 b0 b1 b2 e (some [.str w]) lv) else none
 | _,_=>none
def s38:PSpec:=fun args S=>match args,S with
 | [.ptr 3 0,.str w],⟨[some b0,some b1,some b2,some [.sl 3 es .no],some [.ptr 3 0]],lv⟩ =>
  some (TokIn es∧(pOk 5 b0∧pOk 5 b1∧pOk 5 b2)∧pOk 6 b0∧pOk 6 b1∧pOk 6 b2,
   [⟨(hdT es).k = 1∧((hdT es).s == w) = true,none,.tup [],pS b0 b1 b2 (es.drop 1) lv⟩,⟨¬ ((hdT es).k = 1∧((hdT es).s == w) = true),some (wrongV (hdT es).a 90),.tup [],pS b0 b1 b2 es lv⟩])
 | _,_=>none
structure IntIn (es:List AV):Prop where
 out:(hdT es).k = 2→intB (hdT es).s = true∧(hdT es).s.length≤1000000
def numOuts (es:List AV) (mk:List AV→St):List POut:=
 [⟨(hdT es).k = 2,none,.int .i64 (numV (hdT es).s),mk (es.drop 1)⟩,⟨(hdT es).k ≠ 2,some (wrongV (hdT es).a 90),.tup [],mk es⟩]
def s43:PSpec:=fun args S=>match args,S with
 | [.ptr 3 0],⟨[some b0,some b1,some b2,some [.sl 3 es .no],some [.ptr 3 0]],lv⟩ =>
  some (TokIn es∧IntIn es∧pOk 5 b0∧pOk 5 b1∧pOk 5 b2,numOuts es fun e=>pS b0 b1 b2 e lv)
 | [.ptr 3 0],⟨[some b0,some b1,some b2,some [.sl 3 es .no],some [.ptr 3 0],some b5],lv⟩ =>
  some (TokIn es∧IntIn es∧pOk 6 b0∧pOk 6 b1∧pOk 6 b2∧pOk 6 b5,numOuts es fun e=>pS6 b0 b1 b2 e (some b5) lv)
 | _,_=>none
def s45:Spec:=fun args=>match args with
 | [.str _]=>some (.bool true,[])
 | _=>none
def shTok:Sh × Option TypeId:=(.val (.agg [.int .i64,.str,.int .i64]),none)
def XN:Shapes:=fun f=>match f with
 | 40 | 45 | 46 | 87=>some shB
 | 89=>some (.tup [.one (.int .i64),.one .err],none)
 | _=>none
def tN:List (FuncId × Spec):=[(40,s40u),(45,s45),(89,s89)]
def J0:InC:=fun _ _ _ _=>False
def fsN (f:FuncId):Bool:=f = 38 || f = 39 || f = 43 || f = 42 || f = 44 || f = 41
def fsW (f:FuncId):Bool:=f = 87
def cfW (_:FuncId) (_:List AV):PCfg:={ ps:=[],A:=nAn }
def g39:PCfg:={ ps:=[2,3],A:=nAn }
def g38:PCfg:={ ps:=[1],A:=nAn }
theorem w45 (m:Int) (s:List UInt8) (r:AV):(pureW PQ (GQ m) XN (tbl []) (itbl []) nAn [] 45 [.str s] (r,[])) =
(RetIs (AV.bool true) [] (r,[])):=by kernel_rfl
abbrev w39ac1 (b0:List AV) (b1:List AV) (b2:List AV) (t:Tk) (l:List Tk):List (Option (List AV)):=[some b0,some b1,some b2,some [AV.sl 3 (toksL (t :: l)) Own.no],some [AV.ptr 3 0]]
theorem w39a (m:Int) (k:Int) (t:Tk) (l:List Tk) (b0 b1 b2:List AV) (lv:List (Nat × TypeId)) (os:List POut):(pnW PQ idMk (GQ m) XN (tbl tN) (itbl []) fsN J0 g39 39 [.ptr 3 0,.int .i64 k,.fn 40 []] (pS b0 b1 b2 (toksL (t :: l)) lv) os) =
(((0:Int)≤(0:Int)∧(0:Int) < (↑(toksL (t :: l)).length:Int))∧∃ (n:Int),∃ (s:List UInt8),∃ (n_1:Int),some (AV.agg [I6 t.k,AV.str t.s,I6 t.a]) = some (AV.agg [I6 n,AV.str s,I6 n_1])∧((n != k) = true→PEnd (AV.p2 5 (AV.tup []) && boxesOk 5 (w39ac1 b0 b1 b2 t l)) (some (Value.iface 88 (Value.agg #[Value.int IntKind.i64 n_1,Value.int IntKind.i64 90]))) (AV.tup []) { boxes:=(w39ac1 b0 b1 b2 t l),live:=lv } os)∧((n != k) = false→∃ (b:Bool),CallIs (some (AV.bool (nameR s),[])) (AV.bool b) []∧(b = true→((n != (6:Int)) = true→(0:Int)≤(1:Int)∧((1:Nat)≤(toksL (t :: l)).length∧(toksL (t :: l)).length≤(toksL (t :: l)).length)∧((3:Nat) = (3:Nat)∨toksL (t :: l) = [])∧PEnd (AV.p2 5 (AV.str s) && boxesOk 5 [some b0,some b1,some b2,some [AV.sl 3 (List.drop 1 (List.take (toksL (t :: l)).length (toksL (t :: l)))) Own.no],some [AV.ptr 3 0]]) none (AV.str s) { boxes:=[some b0,some b1,some b2,some [AV.sl 3 (List.drop 1 (List.take (toksL (t :: l)).length (toksL (t :: l)))) Own.no],some [AV.ptr 3 0]],live:=lv } os)∧((n != (6:Int)) = false→PEnd (AV.p2 5 (AV.str s) && boxesOk 5 (w39ac1 b0 b1 b2 t l)) none (AV.str s) { boxes:=(w39ac1 b0 b1 b2 t l),live:=lv } os))∧(b = false→PEnd (AV.p2 5 (AV.tup []) && boxesOk 5 (w39ac1 b0 b1 b2 t l)) (some (Value.iface 88 (Value.agg #[Value.int IntKind.i64 n_1,Value.int IntKind.i64 90]))) (AV.tup []) { boxes:=(w39ac1 b0 b1 b2 t l),live:=lv } os))):=by kernel_rfl
abbrev w39bc1 (b0:List AV) (b1:List AV) (b2:List AV) (t:Tk) (l:List Tk):List (Option (List AV)):=[some b0,some b1,some b2,some [AV.sl 3 (toksL (t :: l)) Own.no],some [AV.ptr 3 0]]
theorem w39b (m:Int) (k:Int) (t:Tk) (l:List Tk) (b0 b1 b2:List AV) (lv:List (Nat × TypeId)) (os:List POut):(pnW PQ idMk (GQ m) XN (tbl tN) (itbl []) fsN J0 g39 39 [.ptr 3 0,.int .i64 k,.fn 45 []] (pS b0 b1 b2 (toksL (t :: l)) lv) os) =
(((0:Int)≤(0:Int)∧(0:Int) < (↑(toksL (t :: l)).length:Int))∧∃ (n:Int),∃ (s:List UInt8),∃ (n_1:Int),some (AV.agg [I6 t.k,AV.str t.s,I6 t.a]) = some (AV.agg [I6 n,AV.str s,I6 n_1])∧((n != k) = true→PEnd (AV.p2 5 (AV.tup []) && boxesOk 5 (w39bc1 b0 b1 b2 t l)) (some (Value.iface 88 (Value.agg #[Value.int IntKind.i64 n_1,Value.int IntKind.i64 90]))) (AV.tup []) { boxes:=(w39bc1 b0 b1 b2 t l),live:=lv } os)∧((n != k) = false→∃ (b:Bool),CallIs (some (AV.bool true,[])) (AV.bool b) []∧(b = true→((n != (6:Int)) = true→(0:Int)≤(1:Int)∧((1:Nat)≤(toksL (t :: l)).length∧(toksL (t :: l)).length≤(toksL (t :: l)).length)∧((3:Nat) = (3:Nat)∨toksL (t :: l) = [])∧PEnd (AV.p2 5 (AV.str s) && boxesOk 5 [some b0,some b1,some b2,some [AV.sl 3 (List.drop 1 (List.take (toksL (t :: l)).length (toksL (t :: l)))) Own.no],some [AV.ptr 3 0]]) none (AV.str s) { boxes:=[some b0,some b1,some b2,some [AV.sl 3 (List.drop 1 (List.take (toksL (t :: l)).length (toksL (t :: l)))) Own.no],some [AV.ptr 3 0]],live:=lv } os)∧((n != (6:Int)) = false→PEnd (AV.p2 5 (AV.str s) && boxesOk 5 (w39bc1 b0 b1 b2 t l)) none (AV.str s) { boxes:=(w39bc1 b0 b1 b2 t l),live:=lv } os))∧(b = false→PEnd (AV.p2 5 (AV.tup []) && boxesOk 5 (w39bc1 b0 b1 b2 t l)) (some (Value.iface 88 (Value.agg #[Value.int IntKind.i64 n_1,Value.int IntKind.i64 90]))) (AV.tup []) { boxes:=(w39bc1 b0 b1 b2 t l),live:=lv } os))):=by kernel_rfl
abbrev w39cc1 (b0:List AV) (b1:List AV) (b2:List AV) (t:Tk) (l:List Tk) (b5:List AV):List (Option (List AV)):=[some b0,some b1,some b2,some [AV.sl 3 (toksL (t :: l)) Own.no],some [AV.ptr 3 0],some b5]
theorem w39c (m:Int) (k:Int) (t:Tk) (l:List Tk) (b0 b1 b2 b5:List AV) (lv:List (Nat × TypeId)) (os:List POut):(pnW PQ idMk (GQ m) XN (tbl tN) (itbl []) fsN J0 g39 39 [.ptr 3 0,.int .i64 k,.fn 45 []] (pS6 b0 b1 b2 (toksL (t :: l)) (some b5) lv) os) =
(((0:Int)≤(0:Int)∧(0:Int) < (↑(toksL (t :: l)).length:Int))∧∃ (n:Int),∃ (s:List UInt8),∃ (n_1:Int),some (AV.agg [I6 t.k,AV.str t.s,I6 t.a]) = some (AV.agg [I6 n,AV.str s,I6 n_1])∧((n != k) = true→PEnd (AV.p2 6 (AV.tup []) && boxesOk 6 (w39cc1 b0 b1 b2 t l b5)) (some (Value.iface 88 (Value.agg #[Value.int IntKind.i64 n_1,Value.int IntKind.i64 90]))) (AV.tup []) { boxes:=(w39cc1 b0 b1 b2 t l b5),live:=lv } os)∧((n != k) = false→∃ (b:Bool),CallIs (some (AV.bool true,[])) (AV.bool b) []∧(b = true→((n != (6:Int)) = true→(0:Int)≤(1:Int)∧((1:Nat)≤(toksL (t :: l)).length∧(toksL (t :: l)).length≤(toksL (t :: l)).length)∧((3:Nat) = (3:Nat)∨toksL (t :: l) = [])∧PEnd (AV.p2 6 (AV.str s) && boxesOk 6 [some b0,some b1,some b2,some [AV.sl 3 (List.drop 1 (List.take (toksL (t :: l)).length (toksL (t :: l)))) Own.no],some [AV.ptr 3 0],some b5]) none (AV.str s) { boxes:=[some b0,some b1,some b2,some [AV.sl 3 (List.drop 1 (List.take (toksL (t :: l)).length (toksL (t :: l)))) Own.no],some [AV.ptr 3 0],some b5],live:=lv } os)∧((n != (6:Int)) = false→PEnd (AV.p2 6 (AV.str s) && boxesOk 6 (w39cc1 b0 b1 b2 t l b5)) none (AV.str s) { boxes:=(w39cc1 b0 b1 b2 t l b5),live:=lv } os))∧(b = false→PEnd (AV.p2 6 (AV.tup []) && boxesOk 6 (w39cc1 b0 b1 b2 t l b5)) (some (Value.iface 88 (Value.agg #[Value.int IntKind.i64 n_1,Value.int IntKind.i64 90]))) (AV.tup []) { boxes:=(w39cc1 b0 b1 b2 t l b5),live:=lv } os))):=by kernel_rfl
abbrev w39ec1 (b0:List AV) (b1:List AV) (b2:List AV) (t:Tk) (l:List Tk):List (Option (List AV)):=[some b0,some b1,some b2,some [AV.sl 3 (toksL (t :: l)) Own.no],some [AV.ptr 3 0],none]
theorem w39e (m:Int) (k:Int) (t:Tk) (l:List Tk) (b0 b1 b2:List AV) (lv:List (Nat × TypeId)) (os:List POut):(pnW PQ idMk (GQ m) XN (tbl tN) (itbl []) fsN J0 g39 39 [.ptr 3 0,.int .i64 k,.fn 45 []] (pS6 b0 b1 b2 (toksL (t :: l)) none lv) os) =
(((0:Int)≤(0:Int)∧(0:Int) < (↑(toksL (t :: l)).length:Int))∧∃ (n:Int),∃ (s:List UInt8),∃ (n_1:Int),some (AV.agg [I6 t.k,AV.str t.s,I6 t.a]) = some (AV.agg [I6 n,AV.str s,I6 n_1])∧((n != k) = true→PEnd (AV.p2 6 (AV.tup []) && boxesOk 6 (w39ec1 b0 b1 b2 t l)) (some (Value.iface 88 (Value.agg #[Value.int IntKind.i64 n_1,Value.int IntKind.i64 90]))) (AV.tup []) { boxes:=(w39ec1 b0 b1 b2 t l),live:=lv } os)∧((n != k) = false→∃ (b:Bool),CallIs (some (AV.bool true,[])) (AV.bool b) []∧(b = true→((n != (6:Int)) = true→(0:Int)≤(1:Int)∧((1:Nat)≤(toksL (t :: l)).length∧(toksL (t :: l)).length≤(toksL (t :: l)).length)∧((3:Nat) = (3:Nat)∨toksL (t :: l) = [])∧PEnd (AV.p2 6 (AV.str s) && boxesOk 6 [some b0,some b1,some b2,some [AV.sl 3 (List.drop 1 (List.take (toksL (t :: l)).length (toksL (t :: l)))) Own.no],some [AV.ptr 3 0],none]) none (AV.str s) { boxes:=[some b0,some b1,some b2,some [AV.sl 3 (List.drop 1 (List.take (toksL (t :: l)).length (toksL (t :: l)))) Own.no],some [AV.ptr 3 0],none],live:=lv } os)∧((n != (6:Int)) = false→PEnd (AV.p2 6 (AV.str s) && boxesOk 6 (w39ec1 b0 b1 b2 t l)) none (AV.str s) { boxes:=(w39ec1 b0 b1 b2 t l),live:=lv } os))∧(b = false→PEnd (AV.p2 6 (AV.tup []) && boxesOk 6 (w39ec1 b0 b1 b2 t l)) (some (Value.iface 88 (Value.agg #[Value.int IntKind.i64 n_1,Value.int IntKind.i64 90]))) (AV.tup []) { boxes:=(w39ec1 b0 b1 b2 t l),live:=lv } os))):=by kernel_rfl
abbrev w39dc1 (b0:List AV) (b1:List AV) (b2:List AV) (t:Tk) (l:List Tk) (w:List UInt8):List (Option (List AV)):=[some b0,some b1,some b2,some [AV.sl 3 (toksL (t :: l)) Own.no],some [AV.ptr 3 0],some [AV.str w]]
theorem w39d (m:Int) (k:Int) (w:List UInt8) (t:Tk) (l:List Tk) (b0 b1 b2:List AV) (lv:List (Nat × TypeId)) (os:List POut):(pnW PQ idMk (GQ m) XN (tbl tN) (itbl []) fsW (inW PQ idMk (GQ m) XN (tbl []) (itbl []) fsW cfW 1) g39 39 [.ptr 3 0,.int .i64 k,.fn 87 [.ptr 5 0]] (pS6 b0 b1 b2 (toksL (t :: l)) (some [.str w]) lv) os) =
(((0:Int)≤(0:Int)∧(0:Int) < (↑(toksL (t :: l)).length:Int))∧∃ (n:Int),∃ (s:List UInt8),∃ (n_1:Int),some (AV.agg [I6 t.k,AV.str t.s,I6 t.a]) = some (AV.agg [I6 n,AV.str s,I6 n_1])∧((n != k) = true→PEnd (AV.p2 6 (AV.tup []) && boxesOk 6 (w39dc1 b0 b1 b2 t l w)) (some (Value.iface 88 (Value.agg #[Value.int IntKind.i64 n_1,Value.int IntKind.i64 90]))) (AV.tup []) { boxes:=(w39dc1 b0 b1 b2 t l w),live:=lv } os)∧((n != k) = false→((s == w) = true→((n != (6:Int)) = true→(0:Int)≤(1:Int)∧((1:Nat)≤(toksL (t :: l)).length∧(toksL (t :: l)).length≤(toksL (t :: l)).length)∧((3:Nat) = (3:Nat)∨toksL (t :: l) = [])∧PEnd (AV.p2 6 (AV.str s) && boxesOk 6 [some b0,some b1,some b2,some [AV.sl 3 (List.drop 1 (List.take (toksL (t :: l)).length (toksL (t :: l)))) Own.no],some [AV.ptr 3 0],some [AV.str w]]) none (AV.str s) { boxes:=[some b0,some b1,some b2,some [AV.sl 3 (List.drop 1 (List.take (toksL (t :: l)).length (toksL (t :: l)))) Own.no],some [AV.ptr 3 0],some [AV.str w]],live:=lv } os)∧((n != (6:Int)) = false→PEnd (AV.p2 6 (AV.str s) && boxesOk 6 (w39dc1 b0 b1 b2 t l w)) none (AV.str s) { boxes:=(w39dc1 b0 b1 b2 t l w),live:=lv } os))∧((s == w) = false→PEnd (AV.p2 6 (AV.tup []) && boxesOk 6 (w39dc1 b0 b1 b2 t l w)) (some (Value.iface 88 (Value.agg #[Value.int IntKind.i64 n_1,Value.int IntKind.i64 90]))) (AV.tup []) { boxes:=(w39dc1 b0 b1 b2 t l w),live:=lv } os))):=by kernel_rfl
theorem w38 (m:Int) (w:List UInt8) (t:Tk) (l:List Tk) (b0 b1 b2:List AV) (lv:List (Nat × TypeId)) (os:List POut):(pnW PQ idMk (GQ m) XN (tbl tN) (itbl []) fsN (ptbl [(39,s39)] J0) g38 38 [.ptr 3 0,.str w] (pS b0 b1 b2 (toksL (t :: l)) lv) os) =
((TokIn (toksL (t :: l))∧b0.all (AV.p1 6) = true∧b1.all (AV.p1 6) = true∧b2.all (AV.p1 6) = true)∧((hdT (toksL (t :: l))).k = (1:Int)∧((hdT (toksL (t :: l))).s == w) = true→PEnd (AV.p2 5 (AV.tup []) && boxesOk 5 [some b0,some b1,some b2,some [AV.sl 3 (if (1:Int) = (6:Int) then toksL (t :: l) else List.drop 1 (toksL (t :: l))) Own.no],some [AV.ptr 3 0]]) none (AV.tup []) { boxes:=[some b0,some b1,some b2,some [AV.sl 3 (if (1:Int) = (6:Int) then toksL (t :: l) else List.drop 1 (toksL (t :: l))) Own.no],some [AV.ptr 3 0]],live:=lv } os)∧(((hdT (toksL (t :: l))).k = (1:Int)∧((hdT (toksL (t :: l))).s == w) = true→False)→PEnd (AV.p2 5 (AV.tup []) && boxesOk 5 [some b0,some b1,some b2,some [AV.sl 3 (toksL (t :: l)) Own.no],some [AV.ptr 3 0]]) (some (Value.iface 88 (Value.agg #[Value.int IntKind.i64 (hdT (toksL (t :: l))).a,Value.int IntKind.i64 90]))) (AV.tup []) { boxes:=[some b0,some b1,some b2,some [AV.sl 3 (toksL (t :: l)) Own.no],some [AV.ptr 3 0]],live:=lv } os)∧True):=by kernel_rfl
abbrev w43ac1 (b0:List AV) (b1:List AV) (b2:List AV) (t:Tk) (l:List Tk):List (Option (List AV)):=[some b0,some b1,some b2,some [AV.sl 3 (if (2:Int) = (6:Int) then toksL (t :: l) else List.drop 1 (toksL (t :: l))) Own.no],some [AV.ptr 3 0]]
abbrev w43ac2:=AV.int IntKind.i64 (1099511627777:Int)
theorem w43a (m:Int) (t:Tk) (l:List Tk) (b0 b1 b2:List AV) (lv:List (Nat × TypeId)) (os:List POut):(pnW PQ idMk (GQ m) XN (tbl tN) (itbl []) fsN (ptbl [(39,s39)] J0) g38 43 [.ptr 3 0] (pS b0 b1 b2 (toksL (t :: l)) lv) os) =
((TokIn (toksL (t :: l))∧b0.all (AV.p1 5) = true∧b1.all (AV.p1 5) = true∧b2.all (AV.p1 5) = true)∧((hdT (toksL (t :: l))).k = (2:Int)∧accS 45 [] (hdT (toksL (t :: l))).s = true→∃ (n:Int),CallIs (tbl [(40,s40u),(45,s45),(89,s89)] 89 [AV.str (hdT (toksL (t :: l))).s]) (AV.tup [I6 n,AV.ifc]) []∧(true = true→PEnd (AV.p2 5 w43ac2 && boxesOk 5 (w43ac1 b0 b1 b2 t l)) none w43ac2 { boxes:=(w43ac1 b0 b1 b2 t l),live:=lv } os)∧(true = false→PEnd (AV.p2 5 (I6 n) && boxesOk 5 (w43ac1 b0 b1 b2 t l)) none (I6 n) { boxes:=(w43ac1 b0 b1 b2 t l),live:=lv } os)∨CallIs (tbl [(40,s40u),(45,s45),(89,s89)] 89 [AV.str (hdT (toksL (t :: l))).s]) (AV.tup [I6 n,AV.lit Value.nilIface]) []∧(false = true→PEnd (AV.p2 5 w43ac2 && boxesOk 5 (w43ac1 b0 b1 b2 t l)) none w43ac2 { boxes:=(w43ac1 b0 b1 b2 t l),live:=lv } os)∧(false = false→PEnd (AV.p2 5 (I6 n) && boxesOk 5 (w43ac1 b0 b1 b2 t l)) none (I6 n) { boxes:=(w43ac1 b0 b1 b2 t l),live:=lv } os))∧(((hdT (toksL (t :: l))).k = (2:Int)∧accS 45 [] (hdT (toksL (t :: l))).s = true→False)→PEnd (AV.p2 5 (AV.tup []) && boxesOk 5 [some b0,some b1,some b2,some [AV.sl 3 (toksL (t :: l)) Own.no],some [AV.ptr 3 0]]) (some (Value.iface 88 (Value.agg #[Value.int IntKind.i64 (hdT (toksL (t :: l))).a,Value.int IntKind.i64 90]))) (AV.tup []) { boxes:=[some b0,some b1,some b2,some [AV.sl 3 (toksL (t :: l)) Own.no],some [AV.ptr 3 0]],live:=lv } os)∧True):=by kernel_rfl
abbrev w43bc1 (b0:List AV) (b1:List AV) (b2:List AV) (t:Tk) (l:List Tk) (b5:List AV):List (Option (List AV)):=[some b0,some b1,some b2,some [AV.sl 3 (if (2:Int) = (6:Int) then toksL (t :: l) else List.drop 1 (toksL (t :: l))) Own.no],some [AV.ptr 3 0],some b5]
abbrev w43bc2:=AV.int IntKind.i64 (1099511627777:Int)
theorem w43b (m:Int) (t:Tk) (l:List Tk) (b0 b1 b2 b5:List AV) (lv:List (Nat × TypeId)) (os:List POut):(pnW PQ idMk (GQ m) XN (tbl tN) (itbl []) fsN (ptbl [(39,s39)] J0) g38 43 [.ptr 3 0] (pS6 b0 b1 b2 (toksL (t :: l)) (some b5) lv) os) =
((TokIn (toksL (t :: l))∧b0.all (AV.p1 6) = true∧b1.all (AV.p1 6) = true∧b2.all (AV.p1 6) = true∧b5.all (AV.p1 6) = true)∧((hdT (toksL (t :: l))).k = (2:Int)∧everyB (hdT (toksL (t :: l))).s = true→∃ (n:Int),CallIs (tbl [(40,s40u),(45,s45),(89,s89)] 89 [AV.str (hdT (toksL (t :: l))).s]) (AV.tup [I6 n,AV.ifc]) []∧(true = true→PEnd (AV.p2 6 w43bc2 && boxesOk 6 (w43bc1 b0 b1 b2 t l b5)) none w43bc2 { boxes:=(w43bc1 b0 b1 b2 t l b5),live:=lv } os)∧(true = false→PEnd (AV.p2 6 (I6 n) && boxesOk 6 (w43bc1 b0 b1 b2 t l b5)) none (I6 n) { boxes:=(w43bc1 b0 b1 b2 t l b5),live:=lv } os)∨CallIs (tbl [(40,s40u),(45,s45),(89,s89)] 89 [AV.str (hdT (toksL (t :: l))).s]) (AV.tup [I6 n,AV.lit Value.nilIface]) []∧(false = true→PEnd (AV.p2 6 w43bc2 && boxesOk 6 (w43bc1 b0 b1 b2 t l b5)) none w43bc2 { boxes:=(w43bc1 b0 b1 b2 t l b5),live:=lv } os)∧(false = false→PEnd (AV.p2 6 (I6 n) && boxesOk 6 (w43bc1 b0 b1 b2 t l b5)) none (I6 n) { boxes:=(w43bc1 b0 b1 b2 t l b5),live:=lv } os))∧(((hdT (toksL (t :: l))).k = (2:Int)∧everyB (hdT (toksL (t :: l))).s = true→False)→PEnd (AV.p2 6 (AV.tup []) && boxesOk 6 [some b0,some b1,some b2,some [AV.sl 3 (toksL (t :: l)) Own.no],some [AV.ptr 3 0],some b5]) (some (Value.iface 88 (Value.agg #[Value.int IntKind.i64 (hdT (toksL (t :: l))).a,Value.int IntKind.i64 90]))) (AV.tup []) { boxes:=[some b0,some b1,some b2,some [AV.sl 3 (toksL (t :: l)) Own.no],some [AV.ptr 3 0],some b5],live:=lv } os)∧True):=by kernel_rfl
theorem bOk5 {b0 b1 b2 es:List AV} (h0:pOk 5 b0) (h1:pOk 5 b1) (h2:pOk 5 b2):boxesOk 5 [some b0,some b1,some b2,some [.sl 3 es .no],some [.ptr 3 0]] = true:=by
 unfold pOk at h0 h1 h2
 simp only [boxesOk,h0,h1,h2,Bool.or_true,Bool.true_and]
 rfl
theorem bOk6 {b0 b1 b2 es:List AV} {b5:Option (List AV)} (h0:pOk 6 b0) (h1:pOk 6 b1) (h2:pOk 6 b2) (h5:oOk 6 b5):boxesOk 6 [some b0,some b1,some b2,some [.sl 3 es .no],some [.ptr 3 0],b5] = true:=by
 unfold pOk at h0 h1 h2
 cases b5 with
 | none =>
  simp only [boxesOk,h0,h1,h2,Bool.or_true,Bool.true_and]
  rfl
 | some c =>
  have h5:c.all (AV.p1 6) = true:=h5
  simp only [boxesOk,h0,h1,h2,h5,Bool.or_true,Bool.true_and]
  rfl
theorem drop_tok (t:Tk) (l:List Tk):List.drop 1 (List.take (toksL (t :: l)).length (toksL (t :: l))) = toksL l:=by
 rw [List.take_length]; rfl
theorem p45 (m:Int) (s:List UInt8):PureOk PQ (GQ m) XN (tbl []) (itbl []) nAn [] 45 [.str s] (.bool true,[]):=by
 constructor
 rw [w45]
 exact ⟨rfl⟩
theorem o45 (m:Int):SpecOk PQ (GQ m) 45 s45:=spec_of (X:=XN) (m:=[]) mixedQ tbl_nil itbl_nil fun args r h=>by
 unfold s45 at h
 split at h
 case h_2=>cases h
 injection h with h; subst h
 exact ⟨_,p45 m _⟩
theorem tN_ok (m:Int):CalleeOk PQ (GQ m) (tbl tN):=tbl_cons (o40u m) (tbl_cons (o45 m) (tbl_cons (o89 m) tbl_nil))
theorem J0_ok {P:Program} {G:Glob} {fs:FuncId→Bool}:InOk P G fs J0:=fun _ _ _ _ _ h=>h.elim
theorem good_end {k:Int} {acc:List UInt8→Bool} {t:Tk} {l:List Tk} {mk:List AV→St} {ok:Bool} {S:St} (hok:ok = true) (hk:(t.k != k) = false) (ha:acc t.s = true) (hS:mk (if k = 6 then toksL (t :: l) else toksL l) = S):PEnd ok none (.str t.s) S (nextOuts k acc (toksL (t :: l)) mk):=
 ⟨hok,_,List.mem_cons_self,⟨by simpa [hdT,unTk_ok] using hk,ha⟩,rfl,rfl,hS⟩
theorem bad_end {k:Int} {acc:List UInt8→Bool} {t:Tk} {l:List Tk} {mk:List AV→St} {ok:Bool} {S:St} (hok:ok = true) (hk:(t.k != k) = true∨acc t.s = false) (hS:mk (toksL (t :: l)) = S):PEnd ok (some (wrongV t.a 90)) (.tup []) S (nextOuts k acc (toksL (t :: l)) mk):=
 have hn:¬ ((hdT (toksL (t :: l))).k = k∧acc (hdT (toksL (t :: l))).s = true):=fun hh=>by
  have h1:t.k = k:=hh.1
  have h2:acc t.s = true:=hh.2
  rcases hk with hk | hk
  ·simp [h1] at hk
  ·rw [h2] at hk; exact absurd hk (by simp)
 ⟨hok,_,List.mem_cons_of_mem _ List.mem_cons_self,hn,rfl,rfl,hS⟩
theorem len_tok (t:Tk) (l:List Tk):(0:Int) < ((toksL (t :: l)).length:Int):=by simp only [List.map_cons,List.length_cons]; omega
theorem len_tok1 (t:Tk) (l:List Tk):1≤(toksL (t :: l)).length:=by simp
theorem p39a (m:Int) (k:Int) (t:Tk) (l:List Tk) (b0 b1 b2:List AV) (lv:List (Nat × TypeId)) (h0:pOk 5 b0) (h1:pOk 5 b1) (h2:pOk 5 b2):PnOk PQ (GQ m) XN (tbl tN) (itbl []) fsN J0 g39 39 [.ptr 3 0,.int .i64 k,.fn 40 []] (pS b0 b1 b2 (toksL (t :: l)) lv) (nextOuts k nameR (toksL (t :: l)) fun e=>pS b0 b1 b2 e lv):=by
 constructor
 rw [w39a]; unfold w39ac1 I6
 have hb:∀ es,boxesOk 5 [some b0,some b1,some b2,some [.sl 3 es .no],some [.ptr 3 0]] = true:=fun es=>bOk5 h0 h1 h2
 refine ⟨⟨Int.le_refl _,len_tok t l⟩,_,_,_,rfl,fun c=>bad_end (by rw [hb]; rfl) (.inl c) rfl,fun c=>⟨_,⟨rfl⟩,fun d=>⟨fun e=>⟨by omega,⟨len_tok1 t l,Nat.le_refl _⟩,.inl rfl,good_end (by rw [hb]; rfl) c d ?_⟩,fun e=>good_end (by rw [hb]; rfl) c d ?_⟩,fun d=>bad_end (by rw [hb]; rfl) (.inr d) rfl⟩⟩
 ·have:k ≠ 6:=by rintro rfl; simp only [bne_iff_ne,ne_eq,bne_eq_false_iff_eq] at c e; exact e c
  rw [if_neg this,drop_tok]; rfl
 ·have:k = 6:=by simp only [bne_eq_false_iff_eq] at c e; rw [← c,e]
  rw [if_pos this]; rfl
theorem p39b (m:Int) (k:Int) (t:Tk) (l:List Tk) (b0 b1 b2:List AV) (lv:List (Nat × TypeId)) (h0:pOk 5 b0) (h1:pOk 5 b1) (h2:pOk 5 b2):PnOk PQ (GQ m) XN (tbl tN) (itbl []) fsN J0 g39 39 [.ptr 3 0,.int .i64 k,.fn 45 []] (pS b0 b1 b2 (toksL (t :: l)) lv) (nextOuts k everyB (toksL (t :: l)) fun e=>pS b0 b1 b2 e lv):=by
 constructor
 rw [w39b]; unfold w39bc1 I6
 have hb:∀ es,boxesOk 5 [some b0,some b1,some b2,some [.sl 3 es .no],some [.ptr 3 0]] = true:=fun es=>bOk5 h0 h1 h2
 refine ⟨⟨Int.le_refl _,len_tok t l⟩,_,_,_,rfl,fun c=>bad_end (by rw [hb]; rfl) (.inl c) rfl,fun c=>⟨_,⟨rfl⟩,fun d=>⟨fun e=>⟨by omega,⟨len_tok1 t l,Nat.le_refl _⟩,.inl rfl,good_end (by rw [hb]; rfl) c rfl ?_⟩,fun e=>good_end (by rw [hb]; rfl) c rfl ?_⟩,nofun⟩⟩
 ·have:k ≠ 6:=by rintro rfl; simp only [bne_iff_ne,ne_eq,bne_eq_false_iff_eq] at c e; exact e c
  rw [if_neg this,drop_tok]; rfl
 ·have:k = 6:=by simp only [bne_eq_false_iff_eq] at c e; rw [← c,e]
  rw [if_pos this]; rfl
theorem p39c (m:Int) (k:Int) (t:Tk) (l:List Tk) (b0 b1 b2 b5:List AV) (lv:List (Nat × TypeId)) (h0:pOk 6 b0) (h1:pOk 6 b1) (h2:pOk 6 b2) (h5:pOk 6 b5):PnOk PQ (GQ m) XN (tbl tN) (itbl []) fsN J0 g39 39 [.ptr 3 0,.int .i64 k,.fn 45 []] (pS6 b0 b1 b2 (toksL (t :: l)) (some b5) lv) (nextOuts k everyB (toksL (t :: l)) fun e=>pS6 b0 b1 b2 e (some b5) lv):=by
 constructor
 rw [w39c]; unfold w39cc1 I6
 have hb:∀ es,boxesOk 6 [some b0,some b1,some b2,some [.sl 3 es .no],some [.ptr 3 0],some b5] = true:=fun es=>bOk6 h0 h1 h2 h5
 refine ⟨⟨Int.le_refl _,len_tok t l⟩,_,_,_,rfl,fun c=>bad_end (by rw [hb]; rfl) (.inl c) rfl,fun c=>⟨_,⟨rfl⟩,fun d=>⟨fun e=>⟨by omega,⟨len_tok1 t l,Nat.le_refl _⟩,.inl rfl,good_end (by rw [hb]; rfl) c rfl ?_⟩,fun e=>good_end (by rw [hb]; rfl) c rfl ?_⟩,nofun⟩⟩
 ·have:k ≠ 6:=by rintro rfl; simp only [bne_iff_ne,ne_eq,bne_eq_false_iff_eq] at c e; exact e c
  rw [if_neg this,drop_tok]; rfl
 ·have:k = 6:=by simp only [bne_eq_false_iff_eq] at c e; rw [← c,e]
  rw [if_pos this]; rfl
theorem p39e (m:Int) (k:Int) (t:Tk) (l:List Tk) (b0 b1 b2:List AV) (lv:List (Nat × TypeId)) (h0:pOk 6 b0) (h1:pOk 6 b1) (h2:pOk 6 b2):PnOk PQ (GQ m) XN (tbl tN) (itbl []) fsN J0 g39 39 [.ptr 3 0,.int .i64 k,.fn 45 []] (pS6 b0 b1 b2 (toksL (t :: l)) none lv) (nextOuts k everyB (toksL (t :: l)) fun e=>pS6 b0 b1 b2 e none lv):=by
 constructor
 rw [w39e]; unfold w39ec1 I6
 have hb:∀ es,boxesOk 6 [some b0,some b1,some b2,some [.sl 3 es .no],some [.ptr 3 0],none] = true:=fun es=>bOk6 h0 h1 h2 trivial
 refine ⟨⟨Int.le_refl _,len_tok t l⟩,_,_,_,rfl,fun c=>bad_end (by rw [hb]; rfl) (.inl c) rfl,fun c=>⟨_,⟨rfl⟩,fun d=>⟨fun e=>⟨by omega,⟨len_tok1 t l,Nat.le_refl _⟩,.inl rfl,good_end (by rw [hb]; rfl) c rfl ?_⟩,fun e=>good_end (by rw [hb]; rfl) c rfl ?_⟩,nofun⟩⟩
 ·have:k ≠ 6:=by rintro rfl; simp only [bne_iff_ne,ne_eq,bne_eq_false_iff_eq] at c e; exact e c
  rw [if_neg this,drop_tok]; rfl
 ·have:k = 6:=by simp only [bne_eq_false_iff_eq] at c e; rw [← c,e]
  rw [if_pos this]; rfl
theorem p39d (m:Int) (k:Int) (w:List UInt8) (t:Tk) (l:List Tk) (b0 b1 b2:List AV) (lv:List (Nat × TypeId)) (h0:pOk 6 b0) (h1:pOk 6 b1) (h2:pOk 6 b2):PnOk PQ (GQ m) XN (tbl tN) (itbl []) fsW (inW PQ idMk (GQ m) XN (tbl []) (itbl []) fsW cfW 1) g39 39 [.ptr 3 0,.int .i64 k,.fn 87 [.ptr 5 0]] (pS6 b0 b1 b2 (toksL (t :: l)) (some [.str w]) lv) (nextOuts k (fun s=>s == w) (toksL (t :: l)) fun e=>pS6 b0 b1 b2 e (some [.str w]) lv):=by
 constructor
 rw [w39d]; unfold w39dc1 I6
 have hb:∀ es,boxesOk 6 [some b0,some b1,some b2,some [.sl 3 es .no],some [.ptr 3 0],some [.str w]] = true:=fun es=>bOk6 h0 h1 h2 rfl
 refine ⟨⟨Int.le_refl _,len_tok t l⟩,_,_,_,rfl,fun c=>bad_end (by rw [hb]; rfl) (.inl c) rfl,fun c=>⟨fun d=>⟨fun e=>⟨by omega,⟨len_tok1 t l,Nat.le_refl _⟩,.inl rfl,good_end (by rw [hb]; rfl) c d ?_⟩,fun e=>good_end (by rw [hb]; rfl) c d ?_⟩,fun d=>bad_end (by rw [hb]; rfl) (.inr d) rfl⟩⟩
 ·have:k ≠ 6:=by rintro rfl; simp only [bne_iff_ne,ne_eq,bne_eq_false_iff_eq] at c e; exact e c
  rw [if_neg this,drop_tok]; rfl
 ·have:k = 6:=by simp only [bne_eq_false_iff_eq] at c e; rw [← c,e]
  rw [if_pos this]; rfl
theorem o39 (m:Int):PSpecOk PQ (GQ m) 39 s39:=pspec_of mixedQ fun args S p os h hp=>by
 unfold s39 at h
 split at h
 case h_5=>cases h
 case h_1 =>
  split at h
  case isFalse=>cases h
  rename_i hg
  injection h with h
  injection h with e1 e2
  subst e1; subst e2
  obtain ⟨⟨t,l,rfl⟩,h0,h1,h2⟩:=hp
  rcases hg with rfl | rfl
  ·exact ⟨_,_,_,_,_,_,tN_ok m,itbl_nil,J0_ok,p39a m _ t l _ _ _ _ h0 h1 h2⟩
  ·exact ⟨_,_,_,_,_,_,tN_ok m,itbl_nil,J0_ok,p39b m _ t l _ _ _ _ h0 h1 h2⟩
 case h_2 =>
  split at h
  case isFalse=>cases h
  rename_i hg
  subst hg
  injection h with h
  injection h with e1 e2
  subst e1; subst e2
  obtain ⟨⟨t,l,rfl⟩,h0,h1,h2,h5⟩:=hp
  exact ⟨_,_,_,_,_,_,tN_ok m,itbl_nil,J0_ok,p39c m _ t l _ _ _ _ _ h0 h1 h2 h5⟩
 case h_3 =>
  split at h
  case isFalse=>cases h
  rename_i hg
  subst hg
  injection h with h
  injection h with e1 e2
  subst e1; subst e2
  obtain ⟨⟨t,l,rfl⟩,h0,h1,h2⟩:=hp
  exact ⟨_,_,_,_,_,_,tN_ok m,itbl_nil,J0_ok,p39e m _ t l _ _ _ _ h0 h1 h2⟩
 case h_4 =>
  split at h
  case isFalse=>cases h
  rename_i hg
  subst hg
  injection h with h
  injection h with e1 e2
  subst e1; subst e2
  obtain ⟨⟨t,l,rfl⟩,h0,h1,h2⟩:=hp
  exact ⟨_,_,_,_,_,_,tN_ok m,itbl_nil,inW_ok mixedQ tbl_nil itbl_nil 1,p39d m _ _ t l _ _ _ _ h0 h1 h2⟩
theorem p38 (m:Int) (w:List UInt8) (t:Tk) (l:List Tk) (b0 b1 b2:List AV) (lv:List (Nat × TypeId)) (h0:pOk 5 b0) (h1:pOk 5 b1) (h2:pOk 5 b2) (g0:pOk 6 b0) (g1:pOk 6 b1) (g2:pOk 6 b2):PnOk PQ (GQ m) XN (tbl tN) (itbl []) fsN (ptbl [(39,s39)] J0) g38 38 [.ptr 3 0,.str w] (pS b0 b1 b2 (toksL (t :: l)) lv)
  [⟨t.k = 1∧(t.s == w) = true,none,.tup [],pS b0 b1 b2 (toksL l) lv⟩,⟨¬ (t.k = 1∧(t.s == w) = true),some (wrongV t.a 90),.tup [],pS b0 b1 b2 (toksL (t :: l)) lv⟩]:=by
 constructor
 rw [w38]
 have hb:∀ es,boxesOk 5 [some b0,some b1,some b2,some [.sl 3 es .no],some [.ptr 3 0]] = true:=fun es=>bOk5 h0 h1 h2
 refine ⟨⟨⟨t,l,rfl⟩,g0,g1,g2⟩,fun h=>⟨by rw [hb]; rfl,_,List.mem_cons_self,h,rfl,rfl,rfl⟩,fun h=>⟨by rw [hb]; rfl,_,List.mem_cons_of_mem _ List.mem_cons_self,h,rfl,rfl,rfl⟩,trivial⟩
theorem o38 (m:Int):PSpecOk PQ (GQ m) 38 s38:=pspec_of mixedQ fun args S p os h hp=>by
 unfold s38 at h
 split at h
 case h_2=>cases h
 injection h with h
 injection h with e1 e2
 subst e1; subst e2
 obtain ⟨⟨t,l,rfl⟩,⟨h0,h1,h2⟩,g0,g1,g2⟩:=hp
 exact ⟨_,_,_,_,_,_,tN_ok m,itbl_nil,ptbl_cons (o39 m) (ptbl_nil J0_ok),p38 m _ t l _ _ _ _ h0 h1 h2 g0 g1 g2⟩
theorem num_ok {l:List UInt8} (h:intB l = true) (hl:l.length≤1000000):tbl tN 89 [.str l] = if valL l≤9223372036854775807 then some (.tup [.int .i64 (valL l),.lit .nilIface],[]) else some (.tup [.int .i64 9223372036854775807,.ifc],[]):=by
 show (if l.length≤1000000∧intB l = true then _ else _) = _
 rw [if_pos ⟨hl,h⟩]
 split <;> rfl
theorem p43a (m:Int) (t:Tk) (l:List Tk) (b0 b1 b2:List AV) (lv:List (Nat × TypeId)) (hi:IntIn (toksL (t :: l))) (h0:pOk 5 b0) (h1:pOk 5 b1) (h2:pOk 5 b2):PnOk PQ (GQ m) XN (tbl tN) (itbl []) fsN (ptbl [(39,s39)] J0) g38 43 [.ptr 3 0] (pS b0 b1 b2 (toksL (t :: l)) lv) (numOuts (toksL (t :: l)) fun e=>pS b0 b1 b2 e lv):=by
 constructor
 rw [w43a]; unfold w43ac2 w43ac1 I6
 have hb:∀ es,boxesOk 5 [some b0,some b1,some b2,some [.sl 3 es .no],some [.ptr 3 0]] = true:=fun es=>bOk5 h0 h1 h2
 refine ⟨⟨⟨t,l,rfl⟩,h0,h1,h2⟩,fun h=>?_,fun h=>⟨by rw [hb]; rfl,_,List.mem_cons_of_mem _ List.mem_cons_self,fun e=>h ⟨e,rfl⟩,rfl,rfl,rfl⟩,trivial⟩
 obtain ⟨a1,a2⟩:=hi.out h.1
 have hn:=num_ok a1 a2
 by_cases hv:valL t.s≤9223372036854775807
 ·refine ⟨valL t.s,.inr ⟨⟨hn.trans (if_pos hv)⟩,nofun,fun _=>⟨by rw [hb]; rfl,_,List.mem_cons_self,h.1,rfl,?_,rfl⟩⟩⟩
  show AV.int .i64 (numV t.s) = _
  rw [numV,if_pos hv]
 ·refine ⟨9223372036854775807,.inl ⟨⟨hn.trans (if_neg hv)⟩,fun _=>⟨by rw [hb]; rfl,_,List.mem_cons_self,h.1,rfl,?_,rfl⟩,nofun⟩⟩
  show AV.int .i64 (numV t.s) = _
  rw [numV,if_neg hv]
theorem p43b (m:Int) (t:Tk) (l:List Tk) (b0 b1 b2 b5:List AV) (lv:List (Nat × TypeId)) (hi:IntIn (toksL (t :: l))) (h0:pOk 6 b0) (h1:pOk 6 b1) (h2:pOk 6 b2) (h5:pOk 6 b5):PnOk PQ (GQ m) XN (tbl tN) (itbl []) fsN (ptbl [(39,s39)] J0) g38 43 [.ptr 3 0] (pS6 b0 b1 b2 (toksL (t :: l)) (some b5) lv) (numOuts (toksL (t :: l)) fun e=>pS6 b0 b1 b2 e (some b5) lv):=by
 constructor
 rw [w43b]; unfold w43bc2 w43bc1 I6
 have hb:∀ es,boxesOk 6 [some b0,some b1,some b2,some [.sl 3 es .no],some [.ptr 3 0],some b5] = true:=fun es=>bOk6 h0 h1 h2 h5
 refine ⟨⟨⟨t,l,rfl⟩,h0,h1,h2,h5⟩,fun h=>?_,fun h=>⟨by rw [hb]; rfl,_,List.mem_cons_of_mem _ List.mem_cons_self,fun e=>h ⟨e,rfl⟩,rfl,rfl,rfl⟩,trivial⟩
 obtain ⟨a1,a2⟩:=hi.out h.1
 have hn:=num_ok a1 a2
 by_cases hv:valL t.s≤9223372036854775807
 ·refine ⟨valL t.s,.inr ⟨⟨hn.trans (if_pos hv)⟩,nofun,fun _=>⟨by rw [hb]; rfl,_,List.mem_cons_self,h.1,rfl,?_,rfl⟩⟩⟩
  show AV.int .i64 (numV t.s) = _
  rw [numV,if_pos hv]
 ·refine ⟨9223372036854775807,.inl ⟨⟨hn.trans (if_neg hv)⟩,fun _=>⟨by rw [hb]; rfl,_,List.mem_cons_self,h.1,rfl,?_,rfl⟩,nofun⟩⟩
  show AV.int .i64 (numV t.s) = _
  rw [numV,if_neg hv]
theorem o43 (m:Int):PSpecOk PQ (GQ m) 43 s43:=pspec_of mixedQ fun args S p os h hp=>by
 unfold s43 at h
 split at h
 case h_3=>cases h
 case h_1 =>
  injection h with h
  injection h with e1 e2
  subst e1; subst e2
  obtain ⟨⟨t,l,rfl⟩,hi,h0,h1,h2⟩:=hp
  exact ⟨_,_,_,_,_,_,tN_ok m,itbl_nil,ptbl_cons (o39 m) (ptbl_nil J0_ok),p43a m t l _ _ _ _ hi h0 h1 h2⟩
 case h_2 =>
  injection h with h
  injection h with e1 e2
  subst e1; subst e2
  obtain ⟨⟨t,l,rfl⟩,hi,h0,h1,h2,h5⟩:=hp
  exact ⟨_,_,_,_,_,_,tN_ok m,itbl_nil,ptbl_cons (o39 m) (ptbl_nil J0_ok),p43b m t l _ _ _ _ _ hi h0 h1 h2 h5⟩
def s42:PSpec:=fun args S=>match args,S with
  | [.ptr 0 0,.ptr 4 0],⟨[some [.str en,.sl 1 fs (.tok 0),.sl 0 [] .nil,.int .i64 sd,.int .i64 pm],some b1,some b2,some [.sl 3 es .no],some [.ptr 3 0]],[(n,9)]⟩ =>
    some (TokIn es∧(∃ l,fs = strsL l)∧n = fs.length∧fs.length≤1000000∧pOk 5 b1∧pOk 5 b2,
      [⟨(hdT es).k = 1∧nameR (hdT es).s = true,none,.tup [],pS [.str en,.sl 1 (fs ++ [.str (hdT es).s]) (.tok 0),.sl 0 [] .nil,.int .i64 sd,.int .i64 pm] b1 b2 (es.drop 1) [(fs.length + 1,9)]⟩,
       ⟨¬ ((hdT es).k = 1∧nameR (hdT es).s = true),some (wrongV (hdT es).a 90),.tup [],pS [.str en,.sl 1 fs (.tok 0),.sl 0 [] .nil,.int .i64 sd,.int .i64 pm] b1 b2 es [(fs.length,9)]⟩])
  | _,_=>none
def s44:PSpec:=fun args S=>match args,S with
  | [.ptr 4 0,.ptr 0 0],⟨[some [.str en,.sl 1 fs (.tok 0),.sl 3 ls (.tok 1),.int .i64 sd,.int .i64 pm],some b1,some b2,some [.sl 3 es .no],some [.ptr 3 0]],[q,(n,65)]⟩ =>
    some (TokIn es∧((hdT es).k = 4→TokIn (es.drop 1)∧IntIn (es.drop 1))∧((hdT es).k = 4→(hdT (es.drop 1)).k = 2→TokIn (es.drop 2)∧IntIn (es.drop 2))∧(∃ l,ls = lbsL l)∧n = ls.length∧ls.length≤1000000∧(pOk 5 b1∧pOk 5 b2)∧pOk 6 b1∧pOk 6 b2,
      [⟨(hdT es).k = 4∧(hdT (es.drop 1)).k = 2∧(hdT (es.drop 2)).k = 2,none,.tup [],pS [.str en,.sl 1 fs (.tok 0),.sl 3 (ls ++ [.agg [.str (hdT es).s,.int .i64 (numV (hdT (es.drop 1)).s),.int .i64 (numV (hdT (es.drop 2)).s)]]) (.tok 1),.int .i64 sd,.int .i64 pm] b1 b2 (es.drop 3) [q,(ls.length + 1,65)]⟩,
       ⟨(hdT es).k ≠ 4,some (wrongV (hdT es).a 90),.tup [],pS [.str en,.sl 1 fs (.tok 0),.sl 3 ls (.tok 1),.int .i64 sd,.int .i64 pm] b1 b2 es [q,(ls.length,65)]⟩,
       ⟨(hdT es).k = 4∧(hdT (es.drop 1)).k ≠ 2,some (wrongV (hdT (es.drop 1)).a 90),.tup [],pS [.str en,.sl 1 fs (.tok 0),.sl 3 ls (.tok 1),.int .i64 sd,.int .i64 pm] b1 b2 (es.drop 1) [q,(ls.length,65)]⟩,
       ⟨(hdT es).k = 4∧(hdT (es.drop 1)).k = 2∧(hdT (es.drop 2)).k ≠ 2,some (wrongV (hdT (es.drop 2)).a 90),.tup [],pS [.str en,.sl 1 fs (.tok 0),.sl 3 ls (.tok 1),.int .i64 sd,.int .i64 pm] b1 b2 (es.drop 2) [q,(ls.length,65)]⟩])
  | _,_=>none
/-! Parse -/
structure Pb where
 a:Int
 c:Int
deriving DecidableEq
def pbA (p:Pb):AV:=.agg [.int .i64 p.a,.int .i64 p.c]
abbrev pbsL (l:List Pb):List AV:=l.map pbA
structure GoodT (ts:List Tk):Prop where
 ends:∃ l t,ts = l ++ [t]∧t.k = 6
 ints:∀ t ∈ ts,t.k = 2→intB t.s = true∧t.s.length≤1000000
 few:ts.length≤900000
def zR (a c:Int):AV:=.tup [rqA zRq,.int .i64 a,.int .i64 c]
def resT (ts:List Tk) (pb:List Pb) (e:Int):AV:=
 if e ≠ 0 then zR 0 e else
 match pb with
 | p :: _=>zR p.a p.c
 | []=>if ts = [] then zR 0 90 else resP (parseTk ts)
structure P2 where
 r:Rq
 ts:List Tk
def rqC (r:Rq) (fo:Own) (lsz:Nat) (lo:Own):List AV:=[.str r.entity,.sl 1 (strsL r.feats) fo,.sl lsz (lbsL r.labels) lo,.int .i64 r.seed,.int .i64 r.permille]
def rqN (r:Rq) (fo:Own):List AV:=[.str r.entity,.sl 1 (strsL r.feats) fo,.sl 0 [] .nil,.int .i64 r.seed,.int .i64 r.permille]
def b0n:List AV:=[.int .i64 0]
def pcut (b0:P2→List AV) (e:Int) (lv:P2→List (Nat × TypeId)) (I:P2→Prop) (mb:List (Nat × TypeId)) (kp:Option Nat):Option Ann:=
 some { α:=P2,slots:=[2,3,4,7],nb:=5,vals:=fun _=>[.ptr 0 0,.ptr 1 0,.ptr 2 0,.ptr 4 0],sS:=fun x=>pS (b0 x) b0n [.int .i64 e] (toksL x.ts) (lv x),I:=I,μ:=fun _=>0,mintB:=mb,keep:=kp }
def lv1 (x:P2):List (Nat × TypeId):=[(x.r.feats.length,9)]
def lv2 (x:P2):List (Nat × TypeId):=[(x.r.feats.length,9),(x.r.labels.length,65)]
def aP (ts:List Tk) (e:Int):Anns:=⟨fun k=>match k with
 | 1000012=>pcut (fun x=>[.str x.r.entity,.sl 0 [] .nil,.sl 0 [] .nil,.int .i64 0,.int .i64 0]) e (fun _=>[]) (fun x=>GoodT x.ts∧parseTk ts = k12 ⟨x.r.entity,[],[],0,0⟩ x.ts∧x.ts.length≤ts.length) [] none
 | 1000013=>pcut (fun x=>rqN x.r (.tok 0)) e lv1 (fun x=>GoodT x.ts∧parseTk ts = k13 x.r x.ts∧x.r.feats = []∧x.r.labels = []∧x.ts.length≤ts.length) [(1000,9)] none
 | 1000014=>pcut (fun x=>rqN x.r (.tok 0)) e lv1 (fun x=>GoodT x.ts∧parseTk ts = k14 x.r x.ts∧x.r.labels = []∧x.ts.length≤ts.length) [] none
 | 1000016=>pcut (fun x=>rqN x.r (.tok 0)) e lv1 (fun x=>GoodT x.ts∧parseTk ts = k16 x.r x.ts∧x.r.labels = []∧x.ts.length≤ts.length) [] none
 | 1000018=>pcut (fun x=>rqC x.r (.tok 0) 3 (.tok 1)) e lv2 (fun x=>GoodT x.ts∧parseTk ts = k18 x.r x.ts∧x.r.labels = []∧x.ts.length≤ts.length) [(2000,65)] none
 | 1000021=>pcut (fun x=>rqC x.r (.tok 0) 3 (.tok 1)) e lv2 (fun x=>GoodT x.ts∧parseTk ts = k21 x.r x.ts) [] none
 | _=>none,nA⟩
def aLF (ts:List Tk) (e:Int):Anns:=⟨fun k=>if k = 1 then some { α:=P2,slots:=[0,1],nb:=5,vals:=fun _=>[.ptr 3 0,.fn 42 [.ptr 0 0,.ptr 4 0]],sS:=fun x=>pS (rqN x.r (.tok 0)) b0n [.int .i64 e] (toksL x.ts) (lv1 x),I:=fun x=>GoodT x.ts∧parseTk ts = kMf x.r x.ts x.r.feats∧x.r.labels = []∧x.r.feats.length + x.ts.length≤ts.length,μ:=fun x=>x.ts.length } else none,nA⟩
def aLL (ts:List Tk) (e:Int):Anns:=⟨fun k=>if k = 1 then some { α:=P2,slots:=[0,1],nb:=5,vals:=fun _=>[.ptr 3 0,.fn 44 [.ptr 4 0,.ptr 0 0]],sS:=fun x=>pS (rqC x.r (.tok 0) 3 (.tok 1)) b0n [.int .i64 e] (toksL x.ts) (lv2 x),I:=fun x=>GoodT x.ts∧parseTk ts = kMl x.r x.ts x.r.labels∧x.r.labels.length + x.ts.length≤ts.length,μ:=fun x=>x.ts.length } else none,nA⟩
def cf41 (ts:List Tk) (e:Int) (args:List AV):PCfg:=
 match args with
 | [_,.fn 42 _]=>{ ps:=[0,3],A:=aLF ts e }
 | _=>{ ps:=[0,3],A:=aLL ts e }
def J1:InC:=ptbl [(39,s39),(38,s38),(43,s43),(42,s42),(44,s44)] J0
def s36v (ts:List Tk) (pb:List Pb) (e:Int):AV × List (Nat × TypeId):=(.tup [.sl 3 (toksL ts) .no,.sl 2 (pbsL pb) .no,.int .i64 e],[])
def XP (ts:List Tk) (pb:List Pb) (e:Int):Shapes:=fun f=>match f with
 | 36=>some (.tup [.one (.is (.sl 3 (toksL ts) .no)),.one (.is (.sl 2 (pbsL pb) .no)),.one (.is (.int .i64 e))],none)
 | 40 | 45 | 46 | 87=>some shB
 | _=>none
def gP (ts:List Tk) (e:Int):TCfg:={ ps:=[10,11,12,13,14,15,16,17,20,21,23],A:=aP ts e,dr:=8 }
abbrev JP (m:Int) (mk:Mk) (s:Spec) (ts:List Tk) (pb:List Pb) (e:Int):InC:=inlW PQ mk (GQ m) (XP ts pb e) (tbl [(36,s),(46,s46)]) (itbl []) fsN (cf41 ts e) 41 J1
abbrev w42c5 (en:List UInt8) (fs:List (List UInt8)) (t:Tk) (l:List Tk) (sd:Int) (pm:Int) (b1:List AV) (b2:List AV):List (Option (List AV)):=[some [AV.str en,AV.sl 1 (strsL fs ++ [AV.str (hdT (toksL (t :: l))).s]) (Own.tok 0),AV.sl 0 [] Own.nil,AV.int IntKind.i64 sd,AV.int IntKind.i64 pm],some b1,some b2,some [AV.sl 3 (if (1:Int) = (6:Int) then toksL (t :: l) else List.drop 1 (toksL (t :: l))) Own.no],some [AV.ptr 3 0]]
abbrev w42c1 (fs:List (List UInt8)) (en:List UInt8) (t:Tk) (l:List Tk) (sd:Int) (pm:Int) (b1:List AV) (b2:List AV) (os:List POut):Prop:=(((1:Nat) = (1:Nat)∨strsL fs = [])∧((strsL fs).length + (1:Nat)) * (17:Nat)≤(70368744177664:Nat)∧fs.length = (strsL fs).length∧(PEnd (AV.p2 5 (AV.tup []) && boxesOk 5 (w42c5 en fs t l sd pm b1 b2)) none (AV.tup []) { boxes:=(w42c5 en fs t l sd pm b1 b2),live:=[((strsL fs).length + (1:Nat),9)] } os∧True)∧True)∧True
abbrev w42c6 (en:List UInt8) (fs:List (List UInt8)) (sd:Int) (pm:Int):List AV:=[AV.str en,AV.sl 1 (strsL fs) (Own.tok 0),AV.sl 0 [] Own.nil,AV.int IntKind.i64 sd,AV.int IntKind.i64 pm]
abbrev w42c2 (t:Tk) (l:List Tk) (en:List UInt8) (fs:List (List UInt8)) (sd:Int) (pm:Int) (b1:List AV) (b2:List AV) (os:List POut):Prop:=((hdT (toksL (t :: l))).k = (1:Int)∧accS 40 [] (hdT (toksL (t :: l))).s = true→False)→PEnd (AV.p2 5 (AV.tup []) && boxesOk 5 [some (w42c6 en fs sd pm),some b1,some b2,some [AV.sl 3 (toksL (t :: l)) Own.no],some [AV.ptr 3 0]]) (some (Value.iface 88 (Value.agg #[Value.int IntKind.i64 (hdT (toksL (t :: l))).a,Value.int IntKind.i64 90]))) (AV.tup []) { boxes:=[some (w42c6 en fs sd pm),some b1,some b2,some [AV.sl 3 (toksL (t :: l)) Own.no],some [AV.ptr 3 0]],live:=[(fs.length,9)] } os
abbrev w42c3 (t:Tk) (l:List Tk) (en:List UInt8) (fs:List (List UInt8)) (sd:Int) (pm:Int) (b1:List AV) (b2:List AV):Prop:=TokIn (toksL (t :: l))∧(w42c6 en fs sd pm).all (AV.p1 5) = true∧b1.all (AV.p1 5) = true∧b2.all (AV.p1 5) = true
abbrev w42c4 (t:Tk) (l:List Tk) (en:List UInt8) (fs:List (List UInt8)) (sd:Int) (pm:Int) (b1:List AV) (b2:List AV) (os:List POut):Prop:=(((w42c3 t l en fs sd pm b1 b2)∧((hdT (toksL (t :: l))).k = (1:Int)∧accS 40 [] (hdT (toksL (t :: l))).s = true→(w42c1 fs en t l sd pm b1 b2 os)∧True)∧(w42c2 t l en fs sd pm b1 b2 os)∧True)∧True)∧((w42c3 t l en fs sd pm b1 b2)∧((hdT (toksL (t :: l))).k = (1:Int)∧accS 40 [] (hdT (toksL (t :: l))).s = true→((w42c1 fs en t l sd pm b1 b2 os)∧True)∧((w42c1 fs en t l sd pm b1 b2 os)∧True)∧True)∧(w42c2 t l en fs sd pm b1 b2 os)∧True)∧True
theorem w42 (m:Int) (t:Tk) (l:List Tk) (en:List UInt8) (fs:List (List UInt8)) (sd pm:Int) (b1 b2:List AV) (os:List POut):(pnW PQ idMk (GQ m) XN (tbl tN) (itbl []) fsN (ptbl [(39,s39)] J0) { ps:=[0],A:=nAn } 42 [.ptr 0 0,.ptr 4 0] (pS [.str en,.sl 1 (strsL fs) (.tok 0),.sl 0 [] .nil,.int .i64 sd,.int .i64 pm] b1 b2 (toksL (t :: l)) [(fs.length,9)]) os) =
((((((w42c3 t l en fs sd pm b1 b2)∧((hdT (toksL (t :: l))).k = (1:Int)∧accS 40 [] (hdT (toksL (t :: l))).s = true→(w42c1 fs en t l sd pm b1 b2 os)∧True)∧(w42c2 t l en fs sd pm b1 b2 os)∧True)∧True)∧True)∧(w42c4 t l en fs sd pm b1 b2 os)∧True)∧((w42c4 t l en fs sd pm b1 b2 os)∧((w42c3 t l en fs sd pm b1 b2)∧((hdT (toksL (t :: l))).k = (1:Int)∧accS 40 [] (hdT (toksL (t :: l))).s = true→(((w42c1 fs en t l sd pm b1 b2 os)∧True)∧((w42c1 fs en t l sd pm b1 b2 os)∧True)∧True)∧(((w42c1 fs en t l sd pm b1 b2 os)∧True)∧True)∧True)∧(w42c2 t l en fs sd pm b1 b2 os)∧True)∧True)∧True):=by kernel_rfl
abbrev w44c1 (t:Tk) (l:List Tk):=List.drop 1 (if (4:Int) = (6:Int) then toksL (t :: l) else List.drop 1 (toksL (t :: l)))
abbrev w44c2 (en:List UInt8) (fs:List AV) (ls:List Lb) (sd:Int) (pm:Int):List AV:=[AV.str en,AV.sl 1 fs (Own.tok 0),AV.sl 3 (lbsL ls) (Own.tok 1),AV.int IntKind.i64 sd,AV.int IntKind.i64 pm]
abbrev w44c3 (t:Tk) (l:List Tk):=hdT (if (4:Int) = (6:Int) then toksL (t :: l) else List.drop 1 (toksL (t :: l)))
abbrev w44c4 (en:List UInt8) (fs:List AV) (ls:List Lb) (t:Tk) (l:List Tk) (sd:Int) (pm:Int) (b1:List AV) (b2:List AV):List (Option (List AV)):=[some [AV.str en,AV.sl 1 fs (Own.tok 0),AV.sl 3 (lbsL ls ++ [AV.agg [AV.str (hdT (toksL (t :: l))).s,I6 (numV (w44c3 t l).s),I6 (numV (hdT (w44c1 t l)).s)]]) (Own.tok 1),I6 sd,I6 pm],some b1,some b2,some [AV.sl 3 (List.drop 1 (w44c1 t l)) Own.no],some [AV.ptr 3 0]]
theorem w44 (m:Int) (t:Tk) (l:List Tk) (en:List UInt8) (fs:List AV) (ls:List Lb) (sd pm:Int) (b1 b2:List AV) (q:Nat × TypeId) (os:List POut):(pnW PQ idMk (GQ m) XN (tbl tN) (itbl []) fsN (ptbl [(39,s39),(43,s43)] J0) { ps:=[0,1,2],A:=nAn } 44 [.ptr 4 0,.ptr 0 0] (pS [.str en,.sl 1 fs (.tok 0),.sl 3 (lbsL ls) (.tok 1),.int .i64 sd,.int .i64 pm] b1 b2 (toksL (t :: l)) [q,(ls.length,65)]) os) =
((TokIn (toksL (t :: l))∧(w44c2 en fs ls sd pm).all (AV.p1 6) = true∧b1.all (AV.p1 6) = true∧b2.all (AV.p1 6) = true)∧((hdT (toksL (t :: l))).k = (4:Int)∧everyB (hdT (toksL (t :: l))).s = true→(TokIn (if (4:Int) = (6:Int) then toksL (t :: l) else List.drop 1 (toksL (t :: l)))∧IntIn (if (4:Int) = (6:Int) then toksL (t :: l) else List.drop 1 (toksL (t :: l)))∧(w44c2 en fs ls sd pm).all (AV.p1 6) = true∧b1.all (AV.p1 6) = true∧b2.all (AV.p1 6) = true∧[AV.str (hdT (toksL (t :: l))).s,I6 0,I6 0].all (AV.p1 6) = true)∧((w44c3 t l).k = (2:Int)→(TokIn (w44c1 t l)∧IntIn (w44c1 t l)∧(w44c2 en fs ls sd pm).all (AV.p1 6) = true∧b1.all (AV.p1 6) = true∧b2.all (AV.p1 6) = true∧[AV.str (hdT (toksL (t :: l))).s,I6 (numV (w44c3 t l).s),I6 0].all (AV.p1 6) = true)∧((hdT (w44c1 t l)).k = (2:Int)→((3:Nat) = (3:Nat)∨lbsL ls = [])∧((lbsL ls).length + (1:Nat)) * (33:Nat)≤(70368744177664:Nat)∧ls.length = (lbsL ls).length∧PEnd (AV.p2 5 (AV.tup []) && boxesOk 5 (w44c4 en fs ls t l sd pm b1 b2)) none (AV.tup []) { boxes:=(w44c4 en fs ls t l sd pm b1 b2),live:=[q,((lbsL ls).length + (1:Nat),65)] } os)∧(((hdT (w44c1 t l)).k = (2:Int)→False)→PEnd (AV.p2 5 (AV.tup []) && boxesOk 5 [some (w44c2 en fs ls sd pm),some b1,some b2,some [AV.sl 3 (w44c1 t l) Own.no],some [AV.ptr 3 0]]) (some (Value.iface 88 (Value.agg #[Value.int IntKind.i64 (hdT (w44c1 t l)).a,Value.int IntKind.i64 90]))) (AV.tup []) { boxes:=[some (w44c2 en fs ls sd pm),some b1,some b2,some [AV.sl 3 (w44c1 t l) Own.no],some [AV.ptr 3 0]],live:=[q,(ls.length,65)] } os)∧True)∧(((w44c3 t l).k = (2:Int)→False)→PEnd (AV.p2 5 (AV.tup []) && boxesOk 5 [some (w44c2 en fs ls sd pm),some b1,some b2,some [AV.sl 3 (if (4:Int) = (6:Int) then toksL (t :: l) else List.drop 1 (toksL (t :: l))) Own.no],some [AV.ptr 3 0]]) (some (Value.iface 88 (Value.agg #[Value.int IntKind.i64 (w44c3 t l).a,Value.int IntKind.i64 90]))) (AV.tup []) { boxes:=[some (w44c2 en fs ls sd pm),some b1,some b2,some [AV.sl 3 (if (4:Int) = (6:Int) then toksL (t :: l) else List.drop 1 (toksL (t :: l))) Own.no],some [AV.ptr 3 0]],live:=[q,(ls.length,65)] } os)∧True)∧(((hdT (toksL (t :: l))).k = (4:Int)∧everyB (hdT (toksL (t :: l))).s = true→False)→PEnd (AV.p2 5 (AV.tup []) && boxesOk 5 [some (w44c2 en fs ls sd pm),some b1,some b2,some [AV.sl 3 (toksL (t :: l)) Own.no],some [AV.ptr 3 0]]) (some (Value.iface 88 (Value.agg #[Value.int IntKind.i64 (hdT (toksL (t :: l))).a,Value.int IntKind.i64 90]))) (AV.tup []) { boxes:=[some (w44c2 en fs ls sd pm),some b1,some b2,some [AV.sl 3 (toksL (t :: l)) Own.no],some [AV.ptr 3 0]],live:=[q,(ls.length,65)] } os)∧True):=by kernel_rfl
theorem p42 (m:Int) (t:Tk) (l:List Tk) (en:List UInt8) (fs:List (List UInt8)) (sd pm:Int) (b1 b2:List AV) (n:Nat) (hn0:n = fs.length) (hf:fs.length≤1000000) (h1:pOk 5 b1) (h2:pOk 5 b2):PnOk PQ (GQ m) XN (tbl tN) (itbl []) fsN (ptbl [(39,s39)] J0) { ps:=[0],A:=nAn } 42 [.ptr 0 0,.ptr 4 0] (pS [.str en,.sl 1 (strsL fs) (.tok 0),.sl 0 [] .nil,.int .i64 sd,.int .i64 pm] b1 b2 (toksL (t :: l)) [(n,9)])
    [⟨t.k = 1∧nameR t.s = true,none,.tup [],pS [.str en,.sl 1 (strsL fs ++ [.str t.s]) (.tok 0),.sl 0 [] .nil,.int .i64 sd,.int .i64 pm] b1 b2 (toksL l) [(n + 1,9)]⟩,
     ⟨¬ (t.k = 1∧nameR t.s = true),some (wrongV t.a 90),.tup [],pS [.str en,.sl 1 (strsL fs) (.tok 0),.sl 0 [] .nil,.int .i64 sd,.int .i64 pm] b1 b2 (toksL (t :: l)) [(n,9)]⟩]:=by
  subst hn0
  constructor
  rw [w42]; unfold w42c4 w42c3 w42c2 w42c6 w42c1 w42c5
  have hn:(strsL fs).length = fs.length:=List.length_map _
  have hb:∀ (es:List AV) (o:Own) (ts:List AV),boxesOk 5 [some [.str en,.sl 1 es o,.sl 0 [] .nil,.int .i64 sd,.int .i64 pm],some b1,some b2,some [.sl 3 ts .no],some [.ptr 3 0]] = true:=fun es o ts=>bOk5 rfl h1 h2
  have hT:TokIn (toksL (t :: l)):=⟨t,l,rfl⟩
  have hl:((strsL fs).length + 1) * 17≤70368744177664:=by rw [hn]; omega
  have b1':b1.all (AV.p1 5) = true:=h1
  have b2':b2.all (AV.p1 5) = true:=h2
  have hp:[AV.str en,.sl 1 (strsL fs) (.tok 0),.sl 0 [] .nil,.int .i64 sd,.int .i64 pm].all (AV.p1 5) = true:=rfl
  repeat' (first | exact trivial | exact hT | exact b1' | exact b2' | exact hp | exact hl | exact hn.symm | exact .inl rfl | refine And.intro ?_ ?_ | intro h)
  all_goals (first | exact ⟨by rw [hb]; rfl,_,List.mem_cons_self,h,rfl,rfl,by rw [hn]; rfl⟩ | exact ⟨by rw [hb]; rfl,_,List.mem_cons_of_mem _ List.mem_cons_self,h,rfl,rfl,rfl⟩)
theorem o42 (m:Int):PSpecOk PQ (GQ m) 42 s42:=pspec_of mixedQ fun args S p os h hp=>by
 unfold s42 at h
 split at h
 case h_2=>cases h
 injection h with h
 injection h with e1 e2
 subst e1; subst e2
 obtain ⟨⟨t,l,rfl⟩,⟨fs,rfl⟩,rfl,hf,h1,h2⟩:=hp
 have hn:(strsL fs).length = fs.length:=List.length_map _
 exact ⟨_,_,_,_,_,_,tN_ok m,itbl_nil,ptbl_cons (o39 m) (ptbl_nil J0_ok),p42 m t l _ fs _ _ _ _ _ hn (by rw [hn] at hf; exact hf) h1 h2⟩
theorem p44 (m:Int) (t:Tk) (l:List Tk) (en:List UInt8) (fs:List AV) (ls:List Lb) (sd pm:Int) (b1 b2:List AV) (q:Nat × TypeId) (n:Nat) (hn0:n = ls.length)
    (ht1:t.k = 4→TokIn (toksL l)∧IntIn (toksL l)) (ht2:t.k = 4→(hdT (toksL l)).k = 2→TokIn ((toksL l).drop 1)∧IntIn ((toksL l).drop 1)) (hf:ls.length≤1000000) (h1:pOk 5 b1) (h2:pOk 5 b2) (g1:pOk 6 b1) (g2:pOk 6 b2):PnOk PQ (GQ m) XN (tbl tN) (itbl []) fsN (ptbl [(39,s39),(43,s43)] J0) { ps:=[0,1,2],A:=nAn } 44 [.ptr 4 0,.ptr 0 0] (pS [.str en,.sl 1 fs (.tok 0),.sl 3 (lbsL ls) (.tok 1),.int .i64 sd,.int .i64 pm] b1 b2 (toksL (t :: l)) [q,(n,65)])
    [⟨t.k = 4∧(hdT (toksL l)).k = 2∧(hdT ((toksL l).drop 1)).k = 2,none,.tup [],pS [.str en,.sl 1 fs (.tok 0),.sl 3 (lbsL ls ++ [.agg [.str t.s,.int .i64 (numV (hdT (toksL l)).s),.int .i64 (numV (hdT ((toksL l).drop 1)).s)]]) (.tok 1),.int .i64 sd,.int .i64 pm] b1 b2 ((toksL l).drop 2) [q,(n + 1,65)]⟩,
     ⟨t.k ≠ 4,some (wrongV t.a 90),.tup [],pS [.str en,.sl 1 fs (.tok 0),.sl 3 (lbsL ls) (.tok 1),.int .i64 sd,.int .i64 pm] b1 b2 (toksL (t :: l)) [q,(n,65)]⟩,
     ⟨t.k = 4∧(hdT (toksL l)).k ≠ 2,some (wrongV (hdT (toksL l)).a 90),.tup [],pS [.str en,.sl 1 fs (.tok 0),.sl 3 (lbsL ls) (.tok 1),.int .i64 sd,.int .i64 pm] b1 b2 (toksL l) [q,(n,65)]⟩,
     ⟨t.k = 4∧(hdT (toksL l)).k = 2∧(hdT ((toksL l).drop 1)).k ≠ 2,some (wrongV (hdT ((toksL l).drop 1)).a 90),.tup [],pS [.str en,.sl 1 fs (.tok 0),.sl 3 (lbsL ls) (.tok 1),.int .i64 sd,.int .i64 pm] b1 b2 ((toksL l).drop 1) [q,(n,65)]⟩]:=by
  subst hn0
  constructor
  rw [w44]; unfold w44c4 w44c3 w44c2 w44c1 I6
  have hn:(lbsL ls).length = ls.length:=List.length_map _
  have hb:∀ (es:List AV) (o:Own) (ts:List AV),boxesOk 5 [some [.str en,.sl 1 fs (.tok 0),.sl 3 es o,.int .i64 sd,.int .i64 pm],some b1,some b2,some [.sl 3 ts .no],some [.ptr 3 0]] = true:=fun es o ts=>bOk5 rfl h1 h2
  have e6:∀ (a:List AV),(if (4:Int) = 6 then a else List.drop 1 (toksL (t :: l))) = toksL l:=fun a=>rfl
  have d2:List.drop 1 (List.drop 1 (toksL l)) = (toksL l).drop 2:=by rw [List.drop_drop]
  simp only [e6]
  refine ⟨⟨⟨t,l,rfl⟩,rfl,g1,g2⟩,fun c1=>⟨⟨(ht1 c1.1).1,(ht1 c1.1).2,rfl,g1,g2,rfl⟩,fun c2=>⟨⟨(ht2 c1.1 c2).1,(ht2 c1.1 c2).2,rfl,g1,g2,rfl⟩,fun c3=>⟨.inl trivial,by rw [hn]; omega,hn.symm,⟨by rw [hb]; rfl,_,List.mem_cons_self,⟨c1.1,c2,c3⟩,rfl,rfl,?_⟩⟩,fun c3=>⟨by rw [hb]; rfl,_,List.mem_cons_of_mem _ (List.mem_cons_of_mem _ (List.mem_cons_of_mem _ List.mem_cons_self)),⟨c1.1,c2,c3⟩,rfl,rfl,rfl⟩,trivial⟩,fun c2=>⟨by rw [hb]; rfl,_,List.mem_cons_of_mem _ (List.mem_cons_of_mem _ List.mem_cons_self),⟨c1.1,c2⟩,rfl,rfl,rfl⟩,trivial⟩,fun c1=>⟨by rw [hb]; rfl,_,List.mem_cons_of_mem _ List.mem_cons_self,fun e=>c1 ⟨e,rfl⟩,rfl,rfl,rfl⟩,trivial⟩
  rw [d2,hn]; rfl
theorem o44 (m:Int):PSpecOk PQ (GQ m) 44 s44:=pspec_of mixedQ fun args S p os h hp=>by
 unfold s44 at h
 split at h
 case h_2=>cases h
 injection h with h
 injection h with e1 e2
 subst e1; subst e2
 obtain ⟨⟨t,l,rfl⟩,ht1,ht2,⟨ls,rfl⟩,rfl,hf,⟨h1,h2⟩,g1,g2⟩:=hp
 have hn:(lbsL ls).length = ls.length:=List.length_map _
 exact ⟨_,_,_,_,_,_,tN_ok m,itbl_nil,ptbl_cons (o39 m) (ptbl_cons (o43 m) (ptbl_nil J0_ok)),p44 m t l _ _ ls _ _ _ _ _ _ hn ht1 ht2 (by rw [hn] at hf; exact hf) h1 h2 g1 g2⟩
theorem J1_ok (m:Int):InOk PQ (GQ m) fsN J1:=ptbl_cons (o39 m) (ptbl_cons (o38 m) (ptbl_cons (o43 m) (ptbl_cons (o42 m) (ptbl_cons (o44 m) (ptbl_nil J0_ok)))))
abbrev w11c1:List AV:=[AV.str [],AV.sl 0 [] Own.nil,AV.sl 0 [] Own.nil,AV.int IntKind.i64 0,AV.int IntKind.i64 0]
abbrev w11c2:List AV:=[AV.ptr 0 0,AV.ptr 1 0,AV.ptr 2 0,AV.ptr 4 0]
abbrev w11c3 (x:P2):List AV:=[AV.str x.r.entity,AV.sl 1 (strsL x.r.feats) (Own.tok 0),AV.sl 0 [] Own.nil,AV.int IntKind.i64 x.r.seed,AV.int IntKind.i64 x.r.permille]
abbrev w11c4 (x:P2):=List.drop 1 (List.take (toksL x.ts).length (toksL x.ts))
abbrev w11c5 (y:P2) (e:Int):St:={ boxes:=[some [AV.str y.r.entity,AV.sl 1 (strsL y.r.feats) (Own.tok 0),AV.sl 0 [] Own.nil,I6 y.r.seed,I6 y.r.permille],some [I6 0],some [I6 e],some [AV.sl 3 (toksL y.ts) Own.no],some [AV.ptr 3 0]],live:=[(y.r.feats.length,9)] }
abbrev w11c6 (y:P2) (e:Int):St:={ boxes:=[some [AV.str y.r.entity,AV.sl 1 (strsL y.r.feats) (Own.tok 0),AV.sl 3 (lbsL y.r.labels) (Own.tok 1),I6 y.r.seed,I6 y.r.permille],some [I6 0],some [I6 e],some [AV.sl 3 (toksL y.ts) Own.no],some [AV.ptr 3 0]],live:=[(y.r.feats.length,9),(y.r.labels.length,65)] }
abbrev w11c7 (x:P2):List AV:=[AV.str x.r.entity,AV.sl 1 (strsL x.r.feats) (Own.tok 0),AV.sl 3 (lbsL x.r.labels) (Own.tok 1),AV.int IntKind.i64 x.r.seed,AV.int IntKind.i64 x.r.permille]
abbrev w11c8 (x:P2):=List.drop (nat_lit 1) (List.take (toksL x.ts).length (toksL x.ts))
abbrev w11c9 (x:P2):List AV:=[AV.str x.r.entity,AV.sl (nat_lit 1) (strsL x.r.feats) (Own.tok (nat_lit 0)),AV.sl (nat_lit 3) (lbsL x.r.labels) (Own.tok (nat_lit 1)),AV.int IntKind.i64 x.r.seed,AV.int IntKind.i64 x.r.permille]
abbrev w11c23 (x:P2):=hdT (List.drop 1 (toksL x.ts))
abbrev w11c14 (x:P2) (e:Int) (r:AV):Prop:=true = false→RetLax (AV.tup [AV.agg (w11c3 x),AV.int IntKind.i64 0,AV.int IntKind.i64 e]) (r,[])
abbrev w11c10 (x:P2) (r:AV) (e:Int):Prop:=((w11c23 x).k = (2:Int)→False)→Option.all litOk (some (Value.iface 88 (Value.agg #[Value.int IntKind.i64 (w11c23 x).a,Value.int IntKind.i64 90]))) = true∧(true = true→RetLax (AV.tup [AV.agg w11c1,AV.int IntKind.i64 (w11c23 x).a,AV.int IntKind.i64 90]) (r,[]))∧(w11c14 x e r)
abbrev w11c11 (x:P2) (e:Int):St:={ boxes:=[some (w11c7 x),some [AV.int IntKind.i64 0],some [AV.int IntKind.i64 e],some [AV.sl 3 (toksL x.ts) Own.no],some [AV.ptr 3 0]],live:=[(x.r.feats.length,9),(x.r.labels.length,65)] }
abbrev w11c12 (x:P2):=some (Value.iface 88 (Value.agg #[Value.int IntKind.i64 (hdT (toksL x.ts)).a,Value.int IntKind.i64 90]))
abbrev w11c13 (x:P2) (r:AV):Prop:=true = true→RetLax (AV.tup [AV.agg w11c1,AV.int IntKind.i64 (hdT (toksL x.ts)).a,AV.int IntKind.i64 90]) (r,[])
abbrev w11c15 (x:P2) (e:Int) (r:AV):Prop:=true = false→RetLax (AV.tup [AV.agg (w11c7 x),AV.int IntKind.i64 0,AV.int IntKind.i64 e]) (r,[])
abbrev w11c16:List AV:=[AV.ptr 3 0,AV.fn 42 [AV.ptr 0 0,AV.ptr 4 0]]
abbrev w11c17 (y:P2) (e:Int):List (Option (List AV)):=[some [AV.str y.r.entity,AV.sl (nat_lit 1) (strsL y.r.feats) (Own.tok (nat_lit 0)),AV.sl (nat_lit 3) (lbsL y.r.labels) (Own.tok (nat_lit 1)),I6 y.r.seed,I6 y.r.permille],some [I6 0],some [I6 e],some [AV.sl (nat_lit 3) (toksL y.ts) Own.no],some [AV.ptr (nat_lit 3) (nat_lit 0)]]
abbrev w11c18 (x:P2):Prop:=(0:Int)≤(0:Int)∧(0:Int) < (↑(toksL x.ts).length:Int)
abbrev w11c19 (x:P2):List AV:=[AV.str x.r.entity,AV.sl 0 [] Own.nil,AV.sl 0 [] Own.nil,AV.int IntKind.i64 0,AV.int IntKind.i64 0]
abbrev w11c20:List AV:=[AV.str [],AV.sl (nat_lit 0) [] Own.nil,AV.sl (nat_lit 0) [] Own.nil,AV.int IntKind.i64 0,AV.int IntKind.i64 0]
abbrev w11c21 (x:P2) (e:Int):Prop:=TokIn (toksL x.ts)∧((w11c3 x).all (AV.p1 5) = true∧true = true∧[AV.int IntKind.i64 e].all (AV.p1 5) = true)∧(w11c3 x).all (AV.p1 6) = true∧true = true∧[AV.int IntKind.i64 e].all (AV.p1 6) = true
abbrev w11c22 (x:P2) (e:Int):St:={ boxes:=[some (w11c3 x),some [AV.int IntKind.i64 0],some [AV.int IntKind.i64 e],some [AV.sl 3 (toksL x.ts) Own.no],some [AV.ptr 3 0]],live:=[(x.r.feats.length,9)] }
abbrev w11c24 (x:P2) (e:Int):Prop:=TokIn (List.drop 1 (toksL x.ts))∧IntIn (List.drop 1 (toksL x.ts))∧(w11c3 x).all (AV.p1 5) = true∧true = true∧[AV.int IntKind.i64 e].all (AV.p1 5) = true
abbrev w11c25 (x:P2) (e:Int) (r:AV):Prop:=true = false→RetLax (AV.tup [AV.agg (w11c9 x),AV.int IntKind.i64 0,AV.int IntKind.i64 e]) (r,[])
abbrev w11c26 (ts:List Tk):=hdT (List.drop 1 (toksL ts))
abbrev w11c27 (x:P2):Prop:=(1:Nat)≤(toksL x.ts).length∧(toksL x.ts).length≤(toksL x.ts).length
abbrev w11c28 (e:Int):=AV.tup [AV.agg w11c1,AV.int IntKind.i64 0,AV.int IntKind.i64 e]
abbrev w11c29:List AV:=[AV.ptr 3 0,AV.fn 44 [AV.ptr 4 0,AV.ptr 0 0]]
abbrev w11c30:List AV:=[AV.ptr (nat_lit 3) (nat_lit 0),AV.fn (nat_lit 44) [AV.ptr (nat_lit 4) (nat_lit 0),AV.ptr (nat_lit 0) (nat_lit 0)]]
abbrev w11c31 (x:P2):=some (Value.iface 88 (Value.agg #[Value.int IntKind.i64 (hdT (w11c4 x)).a,Value.int IntKind.i64 90]))
theorem w11 (m:Int) (s:Spec) (bs:List UInt8) (ts:List Tk) (pb:List Pb) (e:Int) (r:AV):(tlaxW PQ idMk (GQ m) (XP ts pb e) (tbl [(36,s),(46,s46)]) (itbl []) fsN (JP m idMk s ts pb e) (gP ts e) 11 [bytesA bs] (r,[])) =
(CallIs (tbl [(36,s),(46,s46)] 36 [AV.sl 1 (bytesL bs) Own.no]) (AV.tup [AV.sl 3 (toksL ts) Own.no,AV.sl 2 (pbsL pb) Own.no,I6 e]) []∧((e != (0:Int)) = true→RetLax (w11c28 e) (r,[]))∧((e != (0:Int)) = false→(decide ((↑(pbsL pb).length:Int) > (0:Int)) = true→((0:Int)≤(0:Int)∧(0:Int) < (↑(pbsL pb).length:Int))∧∃ (n:Int),takeAt PQ 3 (pbsL pb) 0 0 = some (I6 n)∧((0:Int)≤(0:Int)∧(0:Int) < (↑(pbsL pb).length:Int))∧∃ (n_1:Int),takeAt PQ 28 (pbsL pb) 0 1 = some (I6 n_1)∧RetLax (AV.tup [AV.agg w11c1,I6 n,I6 n_1]) (r,[]))∧(decide ((↑(pbsL pb).length:Int) > (0:Int)) = false→(((↑(toksL ts).length:Int) == (0:Int)) = true→RetLax (AV.tup [AV.agg w11c1,I6 0,I6 90]) (r,[]))∧(((↑(toksL ts).length:Int) == (0:Int)) = false→(TokIn (toksL ts)∧(true = true∧true = true∧[I6 e].all (AV.p1 5) = true)∧true = true∧true = true∧[I6 e].all (AV.p1 6) = true)∧((hdT (toksL ts)).k = (1:Int)∧((hdT (toksL ts)).s == [111,102]) = true→((TokIn (List.drop 1 (toksL ts))∧true = true∧true = true∧[I6 e].all (AV.p1 5) = true)∧((w11c26 ts).k = (1:Int)∧accS 40 [] (w11c26 ts).s = true→∃ (y:P2),ValsAre w11c2 w11c2∧StIs { boxes:=[some [AV.str (w11c26 ts).s,AV.sl 0 [] Own.nil,AV.sl 0 [] Own.nil,I6 0,I6 0],some [I6 0],some [I6 e],some [AV.sl 3 (if (1:Int) = (6:Int) then List.drop 1 (toksL ts) else List.drop 1 (List.drop 1 (toksL ts))) Own.no],some [AV.ptr 3 0]],live:=[] } { boxes:=[some [AV.str y.r.entity,AV.sl 0 [] Own.nil,AV.sl 0 [] Own.nil,I6 0,I6 0],some [I6 0],some [I6 e],some [AV.sl 3 (toksL y.ts) Own.no],some [AV.ptr 3 0]],live:=[] }∧(GoodT y.ts∧parseTk ts = k12 { entity:=y.r.entity,feats:=[],labels:=[],seed:=(0:Int),permille:=(0:Int) } y.ts∧y.ts.length≤ts.length)∧True)∧(((w11c26 ts).k = (1:Int)∧accS 40 [] (w11c26 ts).s = true→False)→Option.all litOk (some (Value.iface 88 (Value.agg #[Value.int IntKind.i64 (w11c26 ts).a,Value.int IntKind.i64 90]))) = true∧(true = true→RetLax (AV.tup [AV.agg w11c1,I6 (w11c26 ts).a,I6 90]) (r,[]))∧(true = false→RetLax (w11c28 e) (r,[])))∧True)∧∀ (x:P2),GoodT x.ts∧parseTk ts = k12 { entity:=x.r.entity,feats:=[],labels:=[],seed:=(0:Int),permille:=(0:Int) } x.ts∧x.ts.length≤ts.length→True→((TokIn (toksL x.ts)∧((w11c19 x).all (AV.p1 5) = true∧true = true∧[I6 e].all (AV.p1 5) = true)∧(w11c19 x).all (AV.p1 6) = true∧true = true∧[I6 e].all (AV.p1 6) = true)∧((hdT (toksL x.ts)).k = (1:Int)∧((hdT (toksL x.ts)).s == [116,97,107,101]) = true→∃ (y:P2),ValsAre w11c2 w11c2∧StIs { boxes:=[some [AV.str x.r.entity,AV.sl 1 [] (Own.tok 0),AV.sl 0 [] Own.nil,I6 0,I6 0],some [I6 0],some [I6 e],some [AV.sl 3 (List.drop 1 (toksL x.ts)) Own.no],some [AV.ptr 3 0]],live:=[(0,9)] } (w11c5 y e)∧(GoodT y.ts∧parseTk ts = k13 y.r y.ts∧y.r.feats = []∧y.r.labels = []∧y.ts.length≤ts.length)∧True)∧(((hdT (toksL x.ts)).k = (1:Int)∧((hdT (toksL x.ts)).s == [116,97,107,101]) = true→False)→Option.all litOk (w11c12 x) = true∧(w11c13 x r)∧(true = false→RetLax (AV.tup [AV.agg (w11c19 x),I6 0,I6 e]) (r,[])))∧True)∧∀ (x:P2),GoodT x.ts∧parseTk ts = k13 x.r x.ts∧x.r.feats = []∧x.r.labels = []∧x.ts.length≤ts.length→True→((TokIn (toksL x.ts)∧(∃ (l:List (List UInt8)),strsL x.r.feats = strsL l)∧x.r.feats.length = (strsL x.r.feats).length∧(strsL x.r.feats).length≤(1000000:Nat)∧true = true∧[I6 e].all (AV.p1 5) = true)∧((hdT (toksL x.ts)).k = (1:Int)∧nameR (hdT (toksL x.ts)).s = true→(∃ (y:P2),ValsAre w11c16 w11c16∧StIs { boxes:=[some [AV.str x.r.entity,AV.sl 1 (strsL x.r.feats ++ [AV.str (hdT (toksL x.ts)).s]) (Own.tok 0),AV.sl 0 [] Own.nil,I6 x.r.seed,I6 x.r.permille],some [I6 0],some [I6 e],some [AV.sl 3 (List.drop 1 (toksL x.ts)) Own.no],some [AV.ptr 3 0]],live:=[((strsL x.r.feats).length + (1:Nat),9)] } (w11c5 y e)∧(GoodT y.ts∧parseTk ts = kMf y.r y.ts y.r.feats∧y.r.labels = []∧y.r.feats.length + y.ts.length≤ts.length)∧True)∧∀ (x:P2),GoodT x.ts∧parseTk ts = kMf x.r x.ts x.r.feats∧x.r.labels = []∧x.r.feats.length + x.ts.length≤ts.length→(w11c18 x)∧∃ (n:Int),takeAt PQ 3 (toksL x.ts) 0 0 = some (I6 n)∧((n == (5:Int)) = true→(w11c18 x)∧∃ (s:List UInt8),takeAt PQ 9 (toksL x.ts) 0 1 = some (AV.str s)∧((s == [44]) = true→(0:Int)≤(1:Int)∧(w11c27 x)∧((3:Nat) = (3:Nat)∨toksL x.ts = [])∧(TokIn (w11c4 x)∧(∃ (l:List (List UInt8)),strsL x.r.feats = strsL l)∧x.r.feats.length = (strsL x.r.feats).length∧(strsL x.r.feats).length≤(1000000:Nat)∧true = true∧[I6 e].all (AV.p1 5) = true)∧((hdT (w11c4 x)).k = (1:Int)∧nameR (hdT (w11c4 x)).s = true→∃ (y:P2),ValsAre w11c16 w11c16∧StIs { boxes:=[some [AV.str x.r.entity,AV.sl 1 (strsL x.r.feats ++ [AV.str (hdT (w11c4 x)).s]) (Own.tok 0),AV.sl 0 [] Own.nil,I6 x.r.seed,I6 x.r.permille],some [I6 0],some [I6 e],some [AV.sl 3 (List.drop 1 (w11c4 x)) Own.no],some [AV.ptr 3 0]],live:=[((strsL x.r.feats).length + (1:Nat),9)] } (w11c5 y e)∧(GoodT y.ts∧parseTk ts = kMf y.r y.ts y.r.feats∧y.r.labels = []∧y.r.feats.length + y.ts.length≤ts.length)∧y.ts.length < x.ts.length)∧(((hdT (w11c4 x)).k = (1:Int)∧nameR (hdT (w11c4 x)).s = true→False)→Option.all litOk (w11c31 x) = true∧(true = true→RetLax (AV.tup [AV.agg w11c1,I6 (hdT (w11c4 x)).a,I6 90]) (r,[]))∧(w11c14 x e r))∧True)∧((s == [44]) = false→∃ (y:P2),ValsAre w11c2 w11c2∧StIs (w11c22 x e) (w11c5 y e)∧(GoodT y.ts∧parseTk ts = k14 y.r y.ts∧y.r.labels = []∧y.ts.length≤ts.length)∧True))∧((n == (5:Int)) = false→∃ (y:P2),ValsAre w11c2 w11c2∧StIs (w11c22 x e) (w11c5 y e)∧(GoodT y.ts∧parseTk ts = k14 y.r y.ts∧y.r.labels = []∧y.ts.length≤ts.length)∧True))∧(((hdT (toksL x.ts)).k = (1:Int)∧nameR (hdT (toksL x.ts)).s = true→False)→Option.all litOk (w11c12 x) = true∧(w11c13 x r)∧(w11c14 x e r))∧True)∧∀ (x:P2),GoodT x.ts∧parseTk ts = k14 x.r x.ts∧x.r.labels = []∧x.ts.length≤ts.length→True→(w11c21 x e)∧((hdT (toksL x.ts)).k = (1:Int)∧((hdT (toksL x.ts)).s == [115,101,101,100]) = true→((w11c24 x e)∧((w11c23 x).k = (2:Int)→∃ (y:P2),ValsAre w11c2 w11c2∧StIs { boxes:=[some [AV.str x.r.entity,AV.sl 1 (strsL x.r.feats) (Own.tok 0),AV.sl 0 [] Own.nil,I6 (numV (w11c23 x).s),I6 x.r.permille],some [I6 0],some [I6 e],some [AV.sl 3 (List.drop 1 (List.drop 1 (toksL x.ts))) Own.no],some [AV.ptr 3 0]],live:=[(x.r.feats.length,9)] } (w11c5 y e)∧(GoodT y.ts∧parseTk ts = k16 y.r y.ts∧y.r.labels = []∧y.ts.length≤ts.length)∧True)∧(w11c10 x r e)∧True)∧∀ (x:P2),GoodT x.ts∧parseTk ts = k16 x.r x.ts∧x.r.labels = []∧x.ts.length≤ts.length→True→(w11c21 x e)∧((hdT (toksL x.ts)).k = (1:Int)∧((hdT (toksL x.ts)).s == [107,101,101,112]) = true→((w11c24 x e)∧((w11c23 x).k = (2:Int)→∃ (y:P2),ValsAre w11c2 w11c2∧StIs { boxes:=[some [AV.str x.r.entity,AV.sl 1 (strsL x.r.feats) (Own.tok 0),AV.sl 3 [] (Own.tok 1),I6 x.r.seed,I6 (numV (w11c23 x).s)],some [I6 0],some [I6 e],some [AV.sl 3 (List.drop 1 (List.drop 1 (toksL x.ts))) Own.no],some [AV.ptr 3 0]],live:=[(x.r.feats.length,9),(0,65)] } (w11c6 y e)∧(GoodT y.ts∧parseTk ts = k18 y.r y.ts∧y.r.labels = []∧y.ts.length≤ts.length)∧True)∧(w11c10 x r e)∧True)∧∀ (x:P2),GoodT x.ts∧parseTk ts = k18 x.r x.ts∧x.r.labels = []∧x.ts.length≤ts.length→True→((w11c18 x)∧∃ (n:Int),takeAt PQ 3 (toksL x.ts) 0 0 = some (I6 n)∧((n == (1:Int)) = true→(w11c18 x)∧∃ (s:List UInt8),takeAt PQ 9 (toksL x.ts) 0 1 = some (AV.str s)∧((s == [97,116]) = true→(0:Int)≤(1:Int)∧(w11c27 x)∧((3:Nat) = (3:Nat)∨toksL x.ts = [])∧(TokIn (w11c4 x)∧((hdT (w11c4 x)).k = (4:Int)→TokIn (List.drop 1 (w11c4 x))∧IntIn (List.drop 1 (w11c4 x)))∧((hdT (w11c4 x)).k = (4:Int)→(hdT (List.drop (1:Nat) (w11c4 x))).k = (2:Int)→TokIn (List.drop 2 (w11c4 x))∧IntIn (List.drop 2 (w11c4 x)))∧(∃ (l:List Lb),lbsL x.r.labels = lbsL l)∧x.r.labels.length = (lbsL x.r.labels).length∧(lbsL x.r.labels).length≤(1000000:Nat)∧(true = true∧[I6 e].all (AV.p1 5) = true)∧true = true∧[I6 e].all (AV.p1 6) = true)∧((hdT (w11c4 x)).k = (4:Int)∧(hdT (List.drop (1:Nat) (w11c4 x))).k = (2:Int)∧(hdT (List.drop (2:Nat) (w11c4 x))).k = (2:Int)→(∃ (y:P2),ValsAre w11c29 w11c29∧StIs { boxes:=[some [AV.str x.r.entity,AV.sl 1 (strsL x.r.feats) (Own.tok 0),AV.sl 3 (lbsL x.r.labels ++ [AV.agg [AV.str (hdT (w11c4 x)).s,I6 (numV (hdT (List.drop (1:Nat) (w11c4 x))).s),I6 (numV (hdT (List.drop (2:Nat) (w11c4 x))).s)]]) (Own.tok 1),I6 x.r.seed,I6 x.r.permille],some [I6 0],some [I6 e],some [AV.sl 3 (List.drop 3 (w11c4 x)) Own.no],some [AV.ptr 3 0]],live:=[(x.r.feats.length,9),((lbsL x.r.labels).length + (1:Nat),65)] } (w11c6 y e)∧(GoodT y.ts∧parseTk ts = kMl y.r y.ts y.r.labels∧y.r.labels.length + y.ts.length≤ts.length)∧True)∧∀ (x:P2),GoodT x.ts∧parseTk ts = kMl x.r x.ts x.r.labels∧x.r.labels.length + x.ts.length≤ts.length→(w11c18 x)∧∃ (n:Int),takeAt PQ 3 (toksL x.ts) 0 0 = some (I6 n)∧((n == (5:Int)) = true→(w11c18 x)∧∃ (s:List UInt8),takeAt PQ 9 (toksL x.ts) 0 1 = some (AV.str s)∧((s == [44]) = true→(0:Int)≤(1:Int)∧(w11c27 x)∧((3:Nat) = (3:Nat)∨toksL x.ts = [])∧(TokIn (w11c4 x)∧((hdT (w11c8 x)).k = (4:Int)→TokIn (List.drop (nat_lit 1) (w11c8 x))∧IntIn (List.drop (nat_lit 1) (w11c8 x)))∧((hdT (w11c8 x)).k = (4:Int)→(hdT (List.drop (1:Nat) (w11c8 x))).k = (2:Int)→TokIn (List.drop (nat_lit 2) (w11c8 x))∧IntIn (List.drop (nat_lit 2) (w11c8 x)))∧(∃ (l:List Lb),lbsL x.r.labels = lbsL l)∧x.r.labels.length = (lbsL x.r.labels).length∧(lbsL x.r.labels).length≤nat_lit 1000000∧(true = true∧[I6 e].all (AV.p1 5) = true)∧true = true∧[I6 e].all (AV.p1 6) = true)∧((hdT (w11c8 x)).k = (4:Int)∧(hdT (List.drop (1:Nat) (w11c8 x))).k = (2:Int)∧(hdT (List.drop (2:Nat) (w11c8 x))).k = (2:Int)→∃ (y:P2),ValsAre w11c30 w11c30∧StIs { boxes:=[some [AV.str x.r.entity,AV.sl (nat_lit 1) (strsL x.r.feats) (Own.tok (nat_lit 0)),AV.sl (nat_lit 3) (lbsL x.r.labels ++ [AV.agg [AV.str (hdT (w11c8 x)).s,I6 (numV (hdT (List.drop (1:Nat) (w11c8 x))).s),I6 (numV (hdT (List.drop (2:Nat) (w11c8 x))).s)]]) (Own.tok (nat_lit 1)),I6 x.r.seed,I6 x.r.permille],some [I6 0],some [I6 e],some [AV.sl (nat_lit 3) (List.drop (nat_lit 3) (w11c8 x)) Own.no],some [AV.ptr (nat_lit 3) (nat_lit 0)]],live:=[(x.r.feats.length,nat_lit 9),((lbsL x.r.labels).length + nat_lit 1,nat_lit 65)] } { boxes:=(w11c17 y e),live:=[(y.r.feats.length,nat_lit 9),(y.r.labels.length,nat_lit 65)] }∧(GoodT y.ts∧parseTk ts = kMl y.r y.ts y.r.labels∧y.r.labels.length + y.ts.length≤ts.length)∧y.ts.length < x.ts.length)∧(((hdT (w11c8 x)).k = (4:Int)→False)→Option.all litOk (some (Value.iface (nat_lit 88) (Value.agg #[Value.int IntKind.i64 (hdT (w11c8 x)).a,Value.int IntKind.i64 90]))) = true∧(true = true→RetLax (AV.tup [AV.agg w11c20,I6 (hdT (w11c8 x)).a,I6 90]) (r,[]))∧(w11c25 x e r))∧((hdT (w11c8 x)).k = (4:Int)∧(hdT (List.drop (1:Nat) (w11c8 x))).k ≠ (2:Int)→Option.all litOk (some (Value.iface (nat_lit 88) (Value.agg #[Value.int IntKind.i64 (hdT (List.drop (1:Nat) (w11c8 x))).a,Value.int IntKind.i64 90]))) = true∧(true = true→RetLax (AV.tup [AV.agg w11c20,I6 (hdT (List.drop (1:Nat) (w11c8 x))).a,I6 90]) (r,[]))∧(w11c25 x e r))∧((hdT (w11c8 x)).k = (4:Int)∧(hdT (List.drop (1:Nat) (w11c8 x))).k = (2:Int)∧(hdT (List.drop (2:Nat) (w11c8 x))).k ≠ (2:Int)→Option.all litOk (some (Value.iface (nat_lit 88) (Value.agg #[Value.int IntKind.i64 (hdT (List.drop (2:Nat) (w11c8 x))).a,Value.int IntKind.i64 90]))) = true∧(true = true→RetLax (AV.tup [AV.agg w11c20,I6 (hdT (List.drop (2:Nat) (w11c8 x))).a,I6 90]) (r,[]))∧(w11c25 x e r))∧True)∧((s == [44]) = false→∃ (y:P2),ValsAre w11c2 w11c2∧StIs { boxes:=[some (w11c9 x),some [I6 0],some [I6 e],some [AV.sl (nat_lit 3) (toksL x.ts) Own.no],some [AV.ptr (nat_lit 3) (nat_lit 0)]],live:=[(x.r.feats.length,9),(x.r.labels.length,nat_lit 65)] } { boxes:=(w11c17 y e),live:=[(y.r.feats.length,9),(y.r.labels.length,nat_lit 65)] }∧(GoodT y.ts∧parseTk ts = k21 y.r y.ts)∧True))∧((n == (5:Int)) = false→∃ (y:P2),ValsAre w11c2 w11c2∧StIs (w11c11 x e) (w11c6 y e)∧(GoodT y.ts∧parseTk ts = k21 y.r y.ts)∧True))∧(((hdT (w11c4 x)).k = (4:Int)→False)→Option.all litOk (w11c31 x) = true∧(true = true→RetLax (AV.tup [AV.agg w11c1,I6 (hdT (w11c4 x)).a,I6 90]) (r,[]))∧(w11c15 x e r))∧((hdT (w11c4 x)).k = (4:Int)∧(hdT (List.drop (1:Nat) (w11c4 x))).k ≠ (2:Int)→Option.all litOk (some (Value.iface 88 (Value.agg #[Value.int IntKind.i64 (hdT (List.drop (1:Nat) (w11c4 x))).a,Value.int IntKind.i64 90]))) = true∧(true = true→RetLax (AV.tup [AV.agg w11c1,I6 (hdT (List.drop (1:Nat) (w11c4 x))).a,I6 90]) (r,[]))∧(w11c15 x e r))∧((hdT (w11c4 x)).k = (4:Int)∧(hdT (List.drop (1:Nat) (w11c4 x))).k = (2:Int)∧(hdT (List.drop (2:Nat) (w11c4 x))).k ≠ (2:Int)→Option.all litOk (some (Value.iface 88 (Value.agg #[Value.int IntKind.i64 (hdT (List.drop (2:Nat) (w11c4 x))).a,Value.int IntKind.i64 90]))) = true∧(true = true→RetLax (AV.tup [AV.agg w11c1,I6 (hdT (List.drop (2:Nat) (w11c4 x))).a,I6 90]) (r,[]))∧(w11c15 x e r))∧True)∧((s == [97,116]) = false→∃ (y:P2),ValsAre w11c2 w11c2∧StIs (w11c11 x e) (w11c6 y e)∧(GoodT y.ts∧parseTk ts = k21 y.r y.ts)∧True))∧((n == (1:Int)) = false→∃ (y:P2),ValsAre w11c2 w11c2∧StIs (w11c11 x e) (w11c6 y e)∧(GoodT y.ts∧parseTk ts = k21 y.r y.ts)∧True))∧∀ (x:P2),GoodT x.ts∧parseTk ts = k21 x.r x.ts→True→(TokIn (toksL x.ts)∧(w11c7 x).all (AV.p1 5) = true∧true = true∧[I6 e].all (AV.p1 5) = true)∧((hdT (toksL x.ts)).k = (6:Int)∧accS 45 [] (hdT (toksL x.ts)).s = true→∃ (b:Bool),CallIs (tbl [(36,s),(46,s46)] 46 [AV.agg [AV.str x.r.entity,AV.sl 1 (strsL x.r.feats) Own.no,AV.sl 3 (lbsL x.r.labels) Own.no,I6 x.r.seed,I6 x.r.permille]]) (AV.bool b) []∧(b = true→true = true∧(false = true→RetLax (AV.tup [AV.agg w11c1,I6 0,I6 0]) (r,[]))∧(false = false→RetLax (AV.tup [AV.agg (w11c7 x),I6 0,I6 0]) (r,[])))∧(b = false→true = true∧(true = true→RetLax (AV.tup [AV.agg w11c1,I6 0,I6 240]) (r,[]))∧(w11c15 x e r)))∧(((hdT (toksL x.ts)).k = (6:Int)∧accS 45 [] (hdT (toksL x.ts)).s = true→False)→Option.all litOk (w11c12 x) = true∧(w11c13 x r)∧(w11c15 x e r))∧True)∧(((hdT (toksL x.ts)).k = (1:Int)∧((hdT (toksL x.ts)).s == [107,101,101,112]) = true→False)→Option.all litOk (w11c12 x) = true∧(w11c13 x r)∧(w11c14 x e r))∧True)∧(((hdT (toksL x.ts)).k = (1:Int)∧((hdT (toksL x.ts)).s == [115,101,101,100]) = true→False)→Option.all litOk (w11c12 x) = true∧(w11c13 x r)∧(w11c14 x e r))∧True)∧(((hdT (toksL ts)).k = (1:Int)∧((hdT (toksL ts)).s == [111,102]) = true→False)→Option.all litOk (some (Value.iface 88 (Value.agg #[Value.int IntKind.i64 (hdT (toksL ts)).a,Value.int IntKind.i64 90]))) = true∧(true = true→RetLax (AV.tup [AV.agg w11c1,I6 (hdT (toksL ts)).a,I6 90]) (r,[]))∧(true = false→RetLax (w11c28 e) (r,[])))∧True)))):=by kernel_rfl
end Go.Abs
