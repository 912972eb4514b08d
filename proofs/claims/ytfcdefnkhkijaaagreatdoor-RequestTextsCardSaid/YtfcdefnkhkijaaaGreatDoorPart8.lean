/- Own texts, part 8. -/
import Derived.Test.YtfcdefnkhkijaaaGreatDoorPart7
import Derived.Test.YtfcdefnkhkijaaaGreatDoorPart5
import Derived.Test.YtfcdefnkhkijaaaGreatDoorPart2
import Derived.Test.YtfcdefnkhkijaaaGreatDoorPart4
import Derived.Deep.LoopGhost
import Derived.WalkKit
import Derived.Lib.Walk
import Derived.Lib.Hide
import Derived.Lib.SliceRun
import Derived.Test.YtfcdefnkhkijaaaGreatDoorPart3
import Derived.Test.YtfcdefnkhkijaaaGreatDoorRows
import Derived.LaidLaws
import Derived.Lay
import Derived.Shelf.Lay
import Derived.Lib.LaidTab
import Derived.Lib.LaidU8

namespace Go.Abs
open Go.Proofs
theorem gt_cons {ts:List Tk} (h:GoodT ts):∃ t l,ts = t :: l:=by
 obtain ⟨l,t,rfl,_⟩:=h.ends
 cases l with
 | nil=>exact ⟨t,[],rfl⟩
 | cons a l=>exact ⟨a,l ++ [t],rfl⟩
theorem gt_tail {t:Tk} {l:List Tk} (h:GoodT (t :: l)) (hk:t.k ≠ 6):GoodT l:=by
 refine ⟨?_,fun u hu=>h.ints u (List.mem_cons_of_mem _ hu),by have:=h.few; simp only [List.length_cons] at this; omega⟩
 obtain ⟨l0,u,e,hu⟩:=h.ends
 cases l0 with
 | nil=>simp only [List.nil_append,List.cons.injEq] at e; obtain ⟨rfl,_⟩:=e; exact absurd hu hk
 | cons a l0 =>
  simp only [List.cons_append,List.cons.injEq] at e
  exact ⟨l0,u,e.2,hu⟩
theorem gt_tokIn {ts:List Tk} (h:GoodT ts):TokIn (toksL ts):=by
 obtain ⟨t,l,rfl⟩:=gt_cons h
 exact ⟨t,l,rfl⟩
theorem gt_intIn {ts:List Tk} (h:GoodT ts):IntIn (toksL ts):=by
 obtain ⟨t,l,rfl⟩:=gt_cons h
 exact ⟨fun hk=>h.ints t List.mem_cons_self hk⟩
theorem nx_ok {k:Int} {acc:List UInt8→Bool} {t:Tk} {l:List Tk} (h:t.k = k∧acc t.s = true) (hk:k ≠ 6):nx k acc (t :: l) = .ok (t.s,l):=by
 rw [nx,if_pos h,if_neg hk]
theorem nx_no {k:Int} {acc:List UInt8→Bool} {t:Tk} {l:List Tk} (h:¬ (t.k = k∧acc t.s = true)):nx k acc (t :: l) = .error t.a:=by
 rw [nx,if_neg h]
theorem thn_ok {α β:Type} {x:Except Int α} {f:α→Except Int β} {a:α} (h:x = .ok a):thn x f = f a:=by rw [h]; rfl
theorem thn_no {α β:Type} {x:Except Int α} {f:α→Except Int β} {a:Int} (h:x = .error a):thn x f = .error a:=by rw [h]; rfl
theorem num_okT {t:Tk} {l:List Tk} (h:t.k = 2):num (t :: l) = .ok (numV t.s,l):=by
 unfold num; rw [thn_ok (nx_ok ⟨h,rfl⟩ (by decide))]
theorem num_no {t:Tk} {l:List Tk} (h:t.k ≠ 2):num (t :: l) = .error t.a:=by
 unfold num; rw [thn_no (nx_no fun e=>h e.1)]
theorem take_k {t:Tk} {l:List Tk}:takeAt PQ 3 (toksL (t :: l)) 0 0 = some (.int .i64 t.k):=by kernel_rfl
theorem take_s {t:Tk} {l:List Tk}:takeAt PQ 9 (toksL (t :: l)) 0 1 = some (.str t.s):=by kernel_rfl
theorem take_pa {p:Pb} {l:List Pb}:takeAt PQ 3 (pbsL (p :: l)) 0 0 = some (.int .i64 p.a):=by kernel_rfl
theorem take_pc {p:Pb} {l:List Pb}:takeAt PQ 28 (pbsL (p :: l)) 0 1 = some (.int .i64 p.c):=by kernel_rfl
theorem lax_z (a c:Int):RetLax (.tup [.agg [.str [],.sl 0 [] .nil,.sl 0 [] .nil,.int .i64 0,.int .i64 0],.int .i64 a,.int .i64 c]) (zR a c,[]):=by
 refine ⟨⟨?_,rfl,rfl,trivial⟩,by rfl,rfl⟩
 exact ⟨rfl,⟨rfl,rfl,.inr rfl⟩,⟨rfl,rfl,.inr rfl⟩,rfl,rfl,trivial⟩
theorem lax_r (r:Rq):RetLax (.tup [.agg [.str r.entity,.sl 1 (strsL r.feats) (.tok 0),.sl 3 (lbsL r.labels) (.tok 1),.int .i64 r.seed,.int .i64 r.permille],.int .i64 0,.int .i64 0]) (.tup [rqA r,.int .i64 0,.int .i64 0],[]):=by
 refine ⟨⟨?_,rfl,rfl,trivial⟩,by rfl,rfl⟩
 exact ⟨rfl,⟨rfl,rfl,.inl rfl⟩,⟨rfl,rfl,.inl rfl⟩,rfl,rfl,trivial⟩
theorem moreF_end {t:Tk} {l:List Tk} {fs:List (List UInt8)} (h:isCm (t :: l) = false):moreF (t :: l) fs = .ok (fs,t :: l):=by
 cases l with
 | nil=>rfl
 | cons u l =>
  have h':isCm [t] = false:=h
  rw [moreF,h']; rfl
theorem moreL_end {t:Tk} {l:List Tk} {ls:List Lb} (h:isCm (t :: l) = false):moreL (t :: l) ls = .ok (ls,t :: l):=by
 have h':isCm [t] = false:=h
 match l with
 | []=>rfl
 | [a]=>rw [moreL,h']; rfl
 | [a,b]=>rw [moreL,h']; rfl
 | a :: b :: c :: l=>rw [moreL,h']; rfl
theorem cm_yes {t:Tk} {l:List Tk} (h1:(t.k == 5) = true) (h2:(t.s == [44]) = true):isCm (t :: l) = true:=by
 have:=eq_of_beq h1
 simp only [isCm,this,decide_true,h2,Bool.and_self]
theorem cm_no1 {t:Tk} {l:List Tk} (h1:(t.k == 5) = false):isCm (t :: l) = false:=by
 have:t.k ≠ 5:=by simpa using h1
 simp only [isCm,decide_eq_false this,Bool.false_and]
theorem cm_no2 {t:Tk} {l:List Tk} (h1:(t.s == [44]) = false):isCm (t :: l) = false:=by
 simp only [isCm,h1,Bool.and_false]
theorem at_yes {t:Tk} {l:List Tk} (h1:(t.k == 1) = true) (h2:(t.s == [97,116]) = true):isAtB (t :: l) = true:=by
 have:=eq_of_beq h1
 simp only [isAtB,this,decide_true,h2,Bool.and_self]
theorem at_no1 {t:Tk} {l:List Tk} (h1:(t.k == 1) = false):isAtB (t :: l) = false:=by
 have:t.k ≠ 1:=by simpa using h1
 simp only [isAtB,decide_eq_false this,Bool.false_and]
theorem at_no2 {t:Tk} {l:List Tk} (h1:(t.s == [97,116]) = false):isAtB (t :: l) = false:=by
 simp only [isAtB,h1,Bool.and_false]
theorem lab_no0 {a:Tk} {l:List Tk} (h:a.k ≠ 4):lab (a :: l) = .error a.a:=by
 unfold lab; rw [thn_no (nx_no fun e=>h e.1)]
theorem lab_no1 {a b:Tk} {l:List Tk} (h:a.k = 4) (h1:b.k ≠ 2):lab (a :: b :: l) = .error b.a:=by
 unfold lab; rw [thn_ok (nx_ok ⟨h,rfl⟩ (by decide)),thn_no (num_no h1)]
theorem lab_no2 {a b c:Tk} {l:List Tk} (h:a.k = 4) (h1:b.k = 2) (h2:c.k ≠ 2):lab (a :: b :: c :: l) = .error c.a:=by
 unfold lab; rw [thn_ok (nx_ok ⟨h,rfl⟩ (by decide)),thn_ok (num_okT h1),thn_no (num_no h2)]
theorem lab_ok {a b c:Tk} {l:List Tk} (h:a.k = 4) (h1:b.k = 2) (h2:c.k = 2):lab (a :: b :: c :: l) = .ok (⟨a.s,numV b.s,numV c.s⟩,l):=by
 unfold lab; rw [thn_ok (nx_ok ⟨h,rfl⟩ (by decide)),thn_ok (num_okT h1),thn_ok (num_okT h2)]
theorem moreL_no0 {t a:Tk} {l:List Tk} {ls:List Lb} (hc:isCm [t] = true) (h:a.k ≠ 4):moreL (t :: a :: l) ls = .error a.a:=by
 match l with
 | []=>rw [moreL,hc]; rfl
 | [b]=>rw [moreL,hc,if_pos rfl,if_neg h]
 | b :: c :: l=>rw [moreL,hc,if_pos rfl,if_neg h]
theorem moreL_no1 {t a b:Tk} {l:List Tk} {ls:List Lb} (hc:isCm [t] = true) (h:a.k = 4) (h1:b.k ≠ 2):moreL (t :: a :: b :: l) ls = .error b.a:=by
 match l with
 | []=>rw [moreL,hc,if_pos rfl,if_pos h]
 | c :: l=>rw [moreL,hc,if_pos rfl,if_pos h,if_neg h1]
theorem moreL_no2 {t a b c:Tk} {l:List Tk} {ls:List Lb} (hc:isCm [t] = true) (h:a.k = 4) (h1:b.k = 2) (h2:c.k ≠ 2):moreL (t :: a :: b :: c :: l) ls = .error c.a:=by
 rw [moreL,hc,if_pos rfl,if_pos h,if_pos h1,if_neg h2]
theorem moreL_ok {t a b c:Tk} {l:List Tk} {ls:List Lb} (hc:isCm [t] = true) (h:a.k = 4) (h1:b.k = 2) (h2:c.k = 2):moreL (t :: a :: b :: c :: l) ls = moreL l (ls ++ [⟨a.s,numV b.s,numV c.s⟩]):=by
 rw [moreL,hc,if_pos rfl,if_pos h,if_pos h1,if_pos h2]
theorem moreF_ok {t u:Tk} {l:List Tk} {fs:List (List UInt8)} (hc:isCm [t] = true) (h:u.k = 1∧nameR u.s = true):moreF (t :: u :: l) fs = moreF l (fs ++ [u.s]):=by
 rw [moreF,hc,if_pos rfl,if_pos h]
theorem moreF_no {t u:Tk} {l:List Tk} {fs:List (List UInt8)} (hc:isCm [t] = true) (h:¬ (u.k = 1∧nameR u.s = true)):moreF (t :: u :: l) fs = .error u.a:=by
 rw [moreF,hc,if_pos rfl,if_neg h]
theorem kMf_ok {en:List UInt8} {f1 f2 fs:List (List UInt8)} {ls:List Lb} {sd pm:Int} {t u:Tk} {l:List Tk} (hc:isCm [t] = true) (h:u.k = 1∧nameR u.s = true):kMf ⟨en,f1,ls,sd,pm⟩ (t :: u :: l) fs = kMf ⟨en,f2,ls,sd,pm⟩ l (fs ++ [u.s]):=by
 unfold kMf; rw [moreF_ok hc h]
theorem kMl_ok {en:List UInt8} {fs:List (List UInt8)} {l1 l2 ls:List Lb} {sd pm:Int} {t a b c:Tk} {l:List Tk} (hc:isCm [t] = true) (h:a.k = 4) (h1:b.k = 2) (h2:c.k = 2):kMl ⟨en,fs,l1,sd,pm⟩ (t :: a :: b :: c :: l) ls = kMl ⟨en,fs,l2,sd,pm⟩ l (ls ++ [⟨a.s,numV b.s,numV c.s⟩]):=by
 unfold kMl; rw [moreL_ok hc h h1 h2]
theorem lab_asked {l:List Tk} (G:GoodT l):TokIn (toksL l)∧((hdT (toksL l)).k = 4→TokIn (List.drop 1 (toksL l))∧IntIn (List.drop 1 (toksL l)))∧((hdT (toksL l)).k = 4→(hdT (List.drop 1 (toksL l))).k = 2→TokIn (List.drop 2 (toksL l))∧IntIn (List.drop 2 (toksL l))):=by
 obtain ⟨a,l,rfl⟩:=gt_cons G
 refine ⟨gt_tokIn G,fun h=>?_,fun h h1=>?_⟩
 ·have G1:=gt_tail G (by have h:a.k = 4:=h; rw [h]; decide)
  exact ⟨gt_tokIn G1,gt_intIn G1⟩
 ·have G1:=gt_tail G (by have h:a.k = 4:=h; rw [h]; decide)
  obtain ⟨b,l,rfl⟩:=gt_cons G1
  have G2:=gt_tail G1 (by have h1:b.k = 2:=h1; rw [h1]; decide)
  exact ⟨gt_tokIn G2,gt_intIn G2⟩
theorem lab_good {l:List Tk} (G:GoodT l) (h:(hdT (toksL l)).k = 4∧(hdT (List.drop 1 (toksL l))).k = 2∧(hdT (List.drop 2 (toksL l))).k = 2):∃ a b c l',l = a :: b :: c :: l'∧a.k = 4∧b.k = 2∧c.k = 2∧GoodT l':=by
 obtain ⟨h,h1,h2⟩:=h
 obtain ⟨a,l,rfl⟩:=gt_cons G
 have G1:=gt_tail G (by have h:a.k = 4:=h; rw [h]; decide)
 obtain ⟨b,l,rfl⟩:=gt_cons G1
 have G2:=gt_tail G1 (by have h1:b.k = 2:=h1; rw [h1]; decide)
 obtain ⟨c,l,rfl⟩:=gt_cons G2
 exact ⟨a,b,c,l,rfl,h,h1,h2,gt_tail G2 (by have h2:c.k = 2:=h2; rw [h2]; decide)⟩
theorem lab_bad0 {l:List Tk} (G:GoodT l) (h:¬ (hdT (toksL l)).k = 4):lab l = .error (hdT (toksL l)).a∧∀ t ls,isCm [t] = true→moreL (t :: l) ls = .error (hdT (toksL l)).a:=by
 obtain ⟨a,l,rfl⟩:=gt_cons G
 exact ⟨lab_no0 h,fun t ls hc=>moreL_no0 hc h⟩
theorem lab_bad1 {l:List Tk} (G:GoodT l) (h:(hdT (toksL l)).k = 4∧(hdT (List.drop 1 (toksL l))).k ≠ 2):lab l = .error (hdT (List.drop 1 (toksL l))).a∧∀ t ls,isCm [t] = true→moreL (t :: l) ls = .error (hdT (List.drop 1 (toksL l))).a:=by
 obtain ⟨h,h1⟩:=h
 obtain ⟨a,l,rfl⟩:=gt_cons G
 have G1:=gt_tail G (by have h:a.k = 4:=h; rw [h]; decide)
 obtain ⟨b,l,rfl⟩:=gt_cons G1
 exact ⟨lab_no1 h h1,fun t ls hc=>moreL_no1 hc h h1⟩
theorem lab_bad2 {l:List Tk} (G:GoodT l) (h:(hdT (toksL l)).k = 4∧(hdT (List.drop 1 (toksL l))).k = 2∧(hdT (List.drop 2 (toksL l))).k ≠ 2):lab l = .error (hdT (List.drop 2 (toksL l))).a∧∀ t ls,isCm [t] = true→moreL (t :: l) ls = .error (hdT (List.drop 2 (toksL l))).a:=by
 obtain ⟨h,h1,h2⟩:=h
 obtain ⟨a,l,rfl⟩:=gt_cons G
 have G1:=gt_tail G (by have h:a.k = 4:=h; rw [h]; decide)
 obtain ⟨b,l,rfl⟩:=gt_cons G1
 have G2:=gt_tail G1 (by have h1:b.k = 2:=h1; rw [h1]; decide)
 obtain ⟨c,l,rfl⟩:=gt_cons G2
 exact ⟨lab_no2 h h1 h2,fun t ls hc=>moreL_no2 hc h h1 h2⟩
theorem p11 (m:Int) (s:Spec) (bs:List UInt8) (ts:List Tk) (pb:List Pb) (e:Int) (hs:s [bytesA bs] = some (s36v ts pb e)) (hg:e = 0→pb = []→ts ≠ []→GoodT ts):TLaxOk PQ (GQ m) (XP ts pb e) (tbl [(36,s),(46,s46)]) (itbl []) fsN (JP m idMk s ts pb e) (gP ts e) 11 [bytesA bs] (resT ts pb e,[]):=by
 constructor
 rw [w11]; unfold w11c31 w11c30 w11c29 w11c28 w11c27 w11c26 w11c25 w11c24 w11c22 w11c21 w11c20 w11c19 w11c18 w11c17 w11c16 w11c15 w11c13 w11c12 w11c11 w11c10 w11c14 w11c23 w11c9 w11c8 w11c7 w11c6 w11c5 w11c4 w11c3 w11c2 w11c1 I6
 simp only [valsAre_iff,stIs_iff,callIs_iff,true_and,and_true,forall_const,Bool.true_eq_false,Bool.false_eq_true,false_implies,List.take_length,Int.le_refl,Int.reduceEq,if_false,List.drop_drop,Nat.reduceAdd,true_or]
 refine ⟨hs,fun h=>?_,fun he=>⟨fun hp=>?_,fun hp=>⟨fun hz=>?_,fun hz=>?_⟩⟩⟩
 ·have:e ≠ 0:=by simpa using h
  unfold resT; rw [if_pos this]
  exact lax_z _ _
 ·have e0:e = 0:=by simpa using he
  cases pb with
  | nil=>exact absurd (of_decide_eq_true hp) (by simp)
  | cons p l =>
   refine ⟨by simp,_,take_pa,by simp,_,take_pc,?_⟩
   unfold resT; rw [if_neg (by omega)]
   exact lax_z _ _
 ·have e0:e = 0:=by simpa using he
  have p0:pb = []:=by
   cases pb with
   | nil=>rfl
   | cons p l=>exact absurd (of_decide_eq_false hp) (by simp)
  have t0:ts = []:=by
   have:=eq_of_beq hz
   rw [List.length_map] at this
   exact List.length_eq_zero_iff.1 (by omega)
  unfold resT; rw [if_neg (by omega),p0]
  simp only [t0,if_true]
  exact lax_z _ _
 have e0:e = 0:=by simpa using he
 have p0:pb = []:=by
  cases pb with
  | nil=>rfl
  | cons p l=>exact absurd (of_decide_eq_false hp) (by simp)
 have t0:ts ≠ []:=by
  intro h0
  subst h0
  simp at hz
 have G:=hg e0 p0 t0
 have hres:resT ts pb e = resP (parseTk ts):=by
  unfold resT; rw [if_neg (by omega),p0]
  simp only [t0,if_false]
 rw [hres]
 have hfew:=G.few
 have bad:∀ a,parseTk ts = .error a→RetLax (.tup [.agg [.str [],.sl 0 [] .nil,.sl 0 [] .nil,.int .i64 0,.int .i64 0],.int .i64 a,.int .i64 90]) (resP (parseTk ts),[]):=fun a h=>by
  rw [h]; exact lax_z _ _
 clear hp he hz hg hres
 obtain ⟨t,l,hts⟩:=gt_cons G
 refine ⟨⟨⟨t,l,by rw [hts]⟩,rfl,rfl⟩,fun h1=>?_,fun h1=>⟨rfl,bad _ ?_⟩⟩
 rotate_left
 ·rw [hts] at h1 ⊢
  exact thn_no (nx_no fun x=>h1 x)
 have P11:parseTk ts = k11 l:=by rw [hts] at h1 ⊢; exact thn_ok (nx_ok h1 (by decide))
 have G1:GoodT l:=by
  rw [hts] at h1 G
  have:t.k = 1:=h1.1
  exact gt_tail G (by rw [this]; decide)
 have L1:l.length≤ts.length:=by rw [hts]; simp
 have hd1:∀ n,List.drop (n + 1) (toksL ts) = List.drop n (toksL l):=fun n=>by rw [hts]; rfl
 rw [hd1 0,hd1 1]
 obtain ⟨t1,l1,rfl⟩:=gt_cons G1
 refine ⟨⟨⟨⟨t1,l1,rfl⟩,rfl⟩,fun h2=>⟨⟨⟨t1.s,[],[],0,0⟩,l1⟩,rfl,gt_tail G1 ?_,P11.trans (thn_ok (nx_ok h2 (by decide))),by simp only [List.length_cons] at L1; exact Nat.le_trans (Nat.le_succ _) L1⟩,fun h2=>⟨rfl,bad _ (P11.trans (thn_no (nx_no fun x=>h2 x)))⟩⟩,?_⟩
 ·have:t1.k = 1:=h2.1
  rw [this]; decide
 rintro ⟨⟨en,fs0,ls0,sd0,pm0⟩,u⟩ ⟨G2,P12,L2⟩
 dsimp only at G2 P12 L2 ⊢
 obtain ⟨t2,l2,rfl⟩:=gt_cons G2
 refine ⟨⟨⟨⟨t2,l2,rfl⟩,⟨rfl,rfl⟩,rfl,rfl⟩,fun h=>⟨⟨⟨en,[],[],0,0⟩,l2⟩,rfl,gt_tail G2 ?_,P12.trans (thn_ok (nx_ok h (by decide))),rfl,rfl,Nat.le_trans (Nat.le_succ _) L2⟩,fun h=>⟨rfl,bad _ (P12.trans (thn_no (nx_no fun x=>h x)))⟩⟩,?_⟩
 ·have:t2.k = 1:=h.1
  rw [this]; decide
 clear G2 P12 L2 t2 l2
 rintro ⟨⟨en,fs,ls,sd,pm⟩,u⟩ ⟨G3,P13,hf,hlb,L3⟩
 dsimp only at G3 P13 hf hlb L3 ⊢
 subst hf; subst hlb
 obtain ⟨t3,l3,rfl⟩:=gt_cons G3
 refine ⟨⟨⟨⟨t3,l3,rfl⟩,⟨[],rfl⟩,rfl,Nat.zero_le _,rfl⟩,fun h=>⟨⟨⟨⟨en,[t3.s],[],sd,pm⟩,l3⟩,rfl,gt_tail G3 ?_,P13.trans (thn_ok (nx_ok h (by decide))),rfl,by simp only [List.length_cons,List.length_nil] at L3 ⊢; omega⟩,?_⟩,fun h=>⟨rfl,bad _ (P13.trans (thn_no (nx_no fun x=>h x)))⟩⟩,?_⟩
 ·have:t3.k = 1:=h.1
  rw [this]; decide
 ·
  clear P13 G3 h L3
  rintro ⟨⟨en,fs,ls,sd,pm⟩,u⟩ ⟨G4,P4,hlb,L4⟩
  dsimp only at G4 P4 hlb L4 ⊢
  subst hlb
  obtain ⟨t4,l4,rfl⟩:=gt_cons G4
  have hn:(strsL fs).length = fs.length:=List.length_map _
  have stop:isCm (t4 :: l4) = false→parseTk ts = k14 ⟨en,fs,[],sd,pm⟩ (t4 :: l4):=fun hc=>P4.trans (thn_ok (moreF_end hc))
  refine ⟨len_tok _ _,_,take_k,fun c5=>⟨len_tok _ _,_,take_s,fun cs=>?_,fun cs=>⟨⟨⟨en,fs,[],sd,pm⟩,t4 :: l4⟩,rfl,G4,stop (cm_no2 cs),rfl,Nat.le_trans (Nat.le_add_left _ _) L4⟩⟩,fun c5=>⟨⟨⟨en,fs,[],sd,pm⟩,t4 :: l4⟩,rfl,G4,stop (cm_no1 c5),rfl,Nat.le_trans (Nat.le_add_left _ _) L4⟩⟩
  have hc:isCm [t4] = true:=cm_yes c5 cs
  have G5:GoodT l4:=gt_tail G4 (by have:=eq_of_beq c5; rw [this]; decide)
  obtain ⟨t5,l5,rfl⟩:=gt_cons G5
  refine ⟨by omega,⟨len_tok1 _ _,Nat.le_refl _⟩,⟨⟨t5,l5,rfl⟩,⟨fs,rfl⟩,hn.symm,by simp only [List.length_cons] at L4; omega,rfl⟩,fun h=>⟨⟨⟨en,fs ++ [t5.s],[],sd,pm⟩,l5⟩,?_,⟨gt_tail G5 ?_,P4.trans (kMf_ok hc h),rfl,by simp only [List.length_cons,List.length_append,List.length_nil] at L4 ⊢; omega⟩,by simp only [List.length_cons]; omega⟩,fun h=>⟨rfl,bad _ (P4.trans (thn_no (moreF_no hc fun x=>h x)))⟩⟩
  ·simp only [List.map_append,List.length_append,hn]; rfl
  ·have:t5.k = 1:=h.1
   rw [this]; decide
 clear P13 G3 L3 t3 l3
 rintro ⟨⟨en,fs,ls,sd,pm⟩,u⟩ ⟨G4,P14,hlb,L4⟩
 dsimp only at G4 P14 hlb L4 ⊢
 subst hlb
 obtain ⟨t4,l4,rfl⟩:=gt_cons G4
 refine ⟨⟨⟨t4,l4,rfl⟩,⟨rfl,rfl⟩,rfl,rfl⟩,fun h=>?_,fun h=>⟨rfl,bad _ (P14.trans (thn_no (nx_no fun x=>h x)))⟩⟩
 have P15:parseTk ts = k15 ⟨en,fs,[],sd,pm⟩ l4:=P14.trans (thn_ok (nx_ok h (by decide)))
 have G5:GoodT l4:=gt_tail G4 (by have:t4.k = 1:=h.1; rw [this]; decide)
 obtain ⟨t5,l5,rfl⟩:=gt_cons G5
 refine ⟨⟨⟨⟨t5,l5,rfl⟩,gt_intIn G5,rfl,rfl⟩,fun h=>⟨⟨⟨en,fs,[],numV t5.s,pm⟩,l5⟩,rfl,gt_tail G5 ?_,P15.trans (thn_ok (num_okT h)),rfl,by simp only [List.length_cons] at L4 ⊢; omega⟩,fun h=>⟨rfl,bad _ (P15.trans (thn_no (num_no h)))⟩⟩,?_⟩
 ·have h:t5.k = 2:=h
  rw [h]; decide
 clear P14 P15 G4 G5 L4 h t4 t5 l5
 rintro ⟨⟨en,fs,ls,sd,pm⟩,u⟩ ⟨G4,P16,hlb,L4⟩
 dsimp only at G4 P16 hlb L4 ⊢
 subst hlb
 obtain ⟨t4,l4,rfl⟩:=gt_cons G4
 refine ⟨⟨⟨t4,l4,rfl⟩,⟨rfl,rfl⟩,rfl,rfl⟩,fun h=>?_,fun h=>⟨rfl,bad _ (P16.trans (thn_no (nx_no fun x=>h x)))⟩⟩
 have P17:parseTk ts = k17 ⟨en,fs,[],sd,pm⟩ l4:=P16.trans (thn_ok (nx_ok h (by decide)))
 have G5:GoodT l4:=gt_tail G4 (by have:t4.k = 1:=h.1; rw [this]; decide)
 obtain ⟨t5,l5,rfl⟩:=gt_cons G5
 refine ⟨⟨⟨⟨t5,l5,rfl⟩,gt_intIn G5,rfl,rfl⟩,fun h=>⟨⟨⟨en,fs,[],sd,numV t5.s⟩,l5⟩,rfl,gt_tail G5 ?_,P17.trans (thn_ok (num_okT h)),rfl,by simp only [List.length_cons] at L4 ⊢; omega⟩,fun h=>⟨rfl,bad _ (P17.trans (thn_no (num_no h)))⟩⟩,?_⟩
 ·have h:t5.k = 2:=h
  rw [h]; decide
 clear P16 P17 G4 G5 L4 h t4 t5 l5
 rintro ⟨⟨en,fs,ls,sd,pm⟩,u⟩ ⟨G4,P18,hlb,L4⟩
 dsimp only at G4 P18 hlb L4 ⊢
 subst hlb
 obtain ⟨t4,l4,rfl⟩:=gt_cons G4
 have stop:isAtB (t4 :: l4) = false→parseTk ts = k21 ⟨en,fs,[],sd,pm⟩ (t4 :: l4):=fun hc=>by rw [P18]; unfold k18; rw [hc]; rfl
 refine ⟨⟨len_tok _ _,_,take_k,fun c1=>⟨len_tok _ _,_,take_s,fun cs=>?_,fun cs=>⟨⟨⟨en,fs,[],sd,pm⟩,t4 :: l4⟩,rfl,G4,stop (at_no2 cs)⟩⟩,fun c1=>⟨⟨⟨en,fs,[],sd,pm⟩,t4 :: l4⟩,rfl,G4,stop (at_no1 c1)⟩⟩,?_⟩
 ·have P20:parseTk ts = k20 ⟨en,fs,[],sd,pm⟩ l4:=by rw [P18]; unfold k18; rw [at_yes c1 cs]; rfl
  have G5:GoodT l4:=gt_tail G4 (by have:=eq_of_beq c1; rw [this]; decide)
  clear stop
  obtain ⟨q1,q2,q3⟩:=lab_asked G5
  refine ⟨by omega,⟨len_tok1 _ _,Nat.le_refl _⟩,⟨q1,q2,q3,⟨[],rfl⟩,rfl,Nat.zero_le _,rfl,rfl⟩,fun h=>?_,fun h=>⟨rfl,bad _ (P20.trans (thn_no (lab_bad0 G5 h).1))⟩,fun h=>⟨rfl,bad _ (P20.trans (thn_no (lab_bad1 G5 h).1))⟩,fun h=>⟨rfl,bad _ (P20.trans (thn_no (lab_bad2 G5 h).1))⟩⟩
  obtain ⟨a,b,c,l5,rfl,ha,hb,hc,G6⟩:=lab_good G5 h
  refine ⟨⟨⟨⟨en,fs,[⟨a.s,numV b.s,numV c.s⟩],sd,pm⟩,l5⟩,rfl,G6,P20.trans (thn_ok (lab_ok ha hb hc)),by simp only [List.length_cons,List.length_nil] at L4 ⊢; omega⟩,?_⟩
  clear P20 P18 q1 q2 q3 G5 G4 G6 h L4 ha hb hc a b c l5
  rintro ⟨⟨en,fs,ls,sd,pm⟩,u⟩ ⟨G4,P4,L4⟩
  dsimp only at G4 P4 L4 ⊢
  obtain ⟨t4,l4,rfl⟩:=gt_cons G4
  have hn:(lbsL ls).length = ls.length:=List.length_map _
  have stop:isCm (t4 :: l4) = false→parseTk ts = k21 ⟨en,fs,ls,sd,pm⟩ (t4 :: l4):=fun hc=>P4.trans (thn_ok (moreL_end hc))
  refine ⟨len_tok _ _,_,take_k,fun c5=>⟨len_tok _ _,_,take_s,fun cs=>?_,fun cs=>⟨⟨⟨en,fs,ls,sd,pm⟩,t4 :: l4⟩,rfl,G4,stop (cm_no2 cs)⟩⟩,fun c5=>⟨⟨⟨en,fs,ls,sd,pm⟩,t4 :: l4⟩,rfl,G4,stop (cm_no1 c5)⟩⟩
  have hcm:isCm [t4] = true:=cm_yes c5 cs
  have G5:GoodT l4:=gt_tail G4 (by have:=eq_of_beq c5; rw [this]; decide)
  obtain ⟨q1,q2,q3⟩:=lab_asked G5
  refine ⟨by omega,⟨len_tok1 _ _,Nat.le_refl _⟩,⟨q1,q2,q3,⟨ls,rfl⟩,hn.symm,by simp only [List.length_cons] at L4; omega,rfl,rfl⟩,fun h=>?_,fun h=>⟨rfl,bad _ (P4.trans (thn_no ((lab_bad0 G5 h).2 _ _ hcm)))⟩,fun h=>⟨rfl,bad _ (P4.trans (thn_no ((lab_bad1 G5 h).2 _ _ hcm)))⟩,fun h=>⟨rfl,bad _ (P4.trans (thn_no ((lab_bad2 G5 h).2 _ _ hcm)))⟩⟩
  obtain ⟨a,b,c,l5,rfl,ha,hb,hc,G6⟩:=lab_good G5 h
  refine ⟨⟨⟨en,fs,ls ++ [⟨a.s,numV b.s,numV c.s⟩],sd,pm⟩,l5⟩,?_,⟨G6,P4.trans (kMl_ok hcm ha hb hc),by simp only [List.length_cons,List.length_append,List.length_nil] at L4 ⊢; omega⟩,by simp only [List.length_cons]; omega⟩
  simp only [List.map_append,List.length_append,hn]; rfl
 clear P18 G4 L4 stop t4 l4
 rintro ⟨⟨en,fs,ls,sd,pm⟩,u⟩ ⟨G4,P21⟩
 dsimp only at G4 P21 ⊢
 obtain ⟨t4,l4,rfl⟩:=gt_cons G4
 refine ⟨⟨⟨t4,l4,rfl⟩,rfl,rfl⟩,fun h=>?_,fun h=>⟨rfl,bad _ (P21.trans (thn_no (nx_no fun x=>h x)))⟩⟩
 have P:parseTk ts = .ok ⟨en,fs,ls,sd,pm⟩:=P21.trans (by
  have h':t4.k = 6∧everyB t4.s = true:=h
  unfold k21; exact thn_ok (by rw [nx,if_pos h']))
 refine ⟨_,run46 ⟨en,fs,ls,sd,pm⟩,fun hb=>?_,fun hb=>?_⟩
 ·rw [P]
  unfold resP
  simp only [hb,if_true]
  exact lax_r ⟨en,fs,ls,sd,pm⟩
 ·rw [P]
  unfold resP
  simp only [hb,if_false,Bool.false_eq_true]
  exact lax_z _ _
structure RS where
 ts:List Tk
 bad:Bool
def wr64 (n:Int):Int:=IntKind.wrap .i64 n
def digV (s:List UInt8):Int:=s.foldl (fun n c=>wr64 (wr64 (wr64 (10 * n) + c.toNat) - 48)) 0
def keptTake (k:Int) (tx:List UInt8) (x:RS):List UInt8 × RS:=
 if x.bad = true then ([],x) else
 match x.ts with
 | []=>([],⟨[],true⟩)
 | t :: l=>if t.k = k∧(tx = []∨t.s = tx) then (t.s,⟨l,false⟩) else ([],⟨t :: l,true⟩)
def keptPre (x:RS):RS:=
 if x.bad = true then x else
 match x.ts with
 | []=>x
 | t :: l=>if nameR t.s = true then x else ⟨t :: l,true⟩
def keptName (x:RS):List UInt8 × RS:=keptTake 1 [] (keptPre x)
def keptNum (x:RS):Int × RS:=(digV (keptTake 2 [] x).1,(keptTake 2 [] x).2)
def keptLab (x:RS):Lb × RS:=(⟨(keptTake 4 [] x).1,(keptNum (keptTake 4 [] x).2).1,(keptNum (keptNum (keptTake 4 [] x).2).2).1⟩,(keptNum (keptNum (keptTake 4 [] x).2).2).2)
def keptSee (k:Int) (tx:List UInt8) (x:RS):Bool:=
 if x.bad = true then false else
 match x.ts with
 | []=>false
 | t :: _=>decide (t.k = k) && (t.s == tx)
def keptFs:Nat→RS→List (List UInt8)→List (List UInt8) × RS
 | 0,x,fs=>(fs,x)
 | n + 1,x,fs=>if keptSee 5 [44] x = true then keptFs n (keptName (keptTake 5 [44] x).2).2 (fs ++ [(keptName (keptTake 5 [44] x).2).1]) else (fs,x)
def keptLs:Nat→RS→List Lb→List Lb × RS
 | 0,x,ls=>(ls,x)
 | n + 1,x,ls=>if keptSee 5 [44] x = true then keptLs n (keptLab (keptTake 5 [44] x).2).2 (ls ++ [(keptLab (keptTake 5 [44] x).2).1]) else (ls,x)
def keptAt (r:Rq) (x:RS):Rq × RS:=
 if keptSee 1 [97,116] x = true then
  let l:=keptLab (keptTake 1 [97,116] x).2
  let m:=keptLs l.2.ts.length l.2 [l.1]
  ({ r with labels:=m.1 },m.2)
 else (r,x)
def keptSd (r:Rq) (x:RS):Rq × RS:=
 let n:=keptNum (keptTake 1 [115,101,101,100] x).2
 let p:=keptNum (keptTake 1 [107,101,101,112] n.2).2
 keptAt { r with seed:=n.1,permille:=p.1 } p.2
def keptReq (x:RS):Rq × RS:=
 let e:=keptName (keptTake 1 [111,102] x).2
 let f:=keptName (keptTake 1 [116,97,107,101] e.2).2
 let g:=keptFs f.2.ts.length f.2 [f.1]
 keptSd ⟨e.1,g.1,[],0,0⟩ g.2
/-! once wrong, nothing goes on -/
theorem bad_take {k:Int} {tx:List UInt8} {x:RS} (h:x.bad = true):keptTake k tx x = ([],x):=by unfold keptTake; rw [if_pos h]
theorem bad_name {x:RS} (h:x.bad = true):(keptName x).2 = x:=by unfold keptName keptPre; rw [if_pos h,bad_take h]
theorem bad_num {x:RS} (h:x.bad = true):(keptNum x).2 = x:=by unfold keptNum; rw [bad_take h]
theorem bad_see {k:Int} {tx:List UInt8} {x:RS} (h:x.bad = true):keptSee k tx x = false:=by unfold keptSee; rw [if_pos h]
theorem bad_fs {x:RS} (h:x.bad = true) (n:Nat) (fs:List (List UInt8)):keptFs n x fs = (fs,x):=by
 cases n with
 | zero=>rfl
 | succ n=>rw [keptFs,bad_see h,if_neg (by simp)]
theorem bad_ls {x:RS} (h:x.bad = true) (n:Nat) (fs:List Lb):keptLs n x fs = (fs,x):=by
 cases n with
 | zero=>rfl
 | succ n=>rw [keptLs,bad_see h,if_neg (by simp)]
theorem bad_at {r:Rq} {x:RS} (h:x.bad = true):(keptAt r x).2 = x:=by unfold keptAt; rw [bad_see h,if_neg (by simp)]
theorem bad_sd {r:Rq} {x:RS} (h:x.bad = true):(keptSd r x).2 = x:=by
 unfold keptSd
 simp only [bad_take h,bad_num h,bad_at h]
def Bd (x:RS) (e:Int):Prop:=x.bad = true∧∃ t l,x.ts = t :: l∧t.a = e
def Sim {α:Type} (y:α × RS) (x:Except Int (α × List Tk)):Prop:=
 match x with
 | .ok (a,l)=>y = (a,⟨l,false⟩)∧GoodT l
 | .error e=>Bd y.2 e
theorem take_sim {k:Int} {tx:List UInt8} {ts:List Tk} (h:GoodT ts) (hk:k ≠ 6) (ht:tx ≠ []):Sim (keptTake k tx ⟨ts,false⟩) (nx k (· == tx) ts):=by
 obtain ⟨t,l,rfl⟩:=gt_cons h
 unfold keptTake
 simp only [Bool.false_eq_true,if_false]
 by_cases hh:t.k = k∧t.s = tx
 ·rw [if_pos ⟨hh.1,.inr hh.2⟩,nx_ok ⟨hh.1,by simpa using hh.2⟩ hk]
  exact ⟨rfl,gt_tail h (by rw [hh.1]; exact hk)⟩
 ·rw [if_neg (fun x=>hh ⟨x.1,x.2.resolve_left ht⟩),nx_no (fun x=>hh ⟨x.1,by simpa using x.2⟩)]
  exact ⟨rfl,t,l,rfl,rfl⟩
theorem take0_sim {k:Int} {ts:List Tk} (h:GoodT ts) (hk:k ≠ 6):Sim (keptTake k [] ⟨ts,false⟩) (nx k everyB ts):=by
 obtain ⟨t,l,rfl⟩:=gt_cons h
 unfold keptTake
 simp only [Bool.false_eq_true,if_false]
 by_cases hh:t.k = k
 ·rw [if_pos ⟨hh,.inl trivial⟩,nx_ok ⟨hh,rfl⟩ hk]
  exact ⟨rfl,gt_tail h (by rw [hh]; exact hk)⟩
 ·rw [if_neg (fun x=>hh x.1),nx_no (fun x=>hh x.1)]
  exact ⟨rfl,t,l,rfl,rfl⟩
theorem name_sim {ts:List Tk} (h:GoodT ts):Sim (keptName ⟨ts,false⟩) (nx 1 nameR ts):=by
 obtain ⟨t,l,rfl⟩:=gt_cons h
 unfold keptName keptPre
 simp only [Bool.false_eq_true,if_false]
 by_cases hn:nameR t.s = true
 ·rw [if_pos hn]
  unfold keptTake
  simp only [Bool.false_eq_true,if_false]
  by_cases hh:t.k = 1
  ·rw [if_pos ⟨hh,.inl trivial⟩,nx_ok ⟨hh,hn⟩ (by decide)]
   exact ⟨rfl,gt_tail h (by rw [hh]; decide)⟩
  ·rw [if_neg (fun x=>hh x.1),nx_no (fun x=>hh x.1)]
   exact ⟨rfl,t,l,rfl,rfl⟩
 ·rw [if_neg hn,bad_take rfl,nx_no (fun x=>hn x.2)]
  exact ⟨rfl,t,l,rfl,rfl⟩
def NumT (ts:List Tk):Prop:=∀ t ∈ ts,t.k = 2→digV t.s = numV t.s
theorem numT_of {ts us:List Tk} (h:NumT ts) (hs:∀ t ∈ us,t ∈ ts):NumT us:=fun t ht=>h t (hs t ht)
theorem nx_suf {k:Int} {acc:List UInt8→Bool} {ts l:List Tk} {s:List UInt8} (h:nx k acc ts = .ok (s,l)):∀ t ∈ l,t ∈ ts:=by
 cases ts with
 | nil=>cases h
 | cons t r =>
  by_cases hc:t.k = k∧acc t.s = true
  ·rw [nx,if_pos hc] at h
   injection h with h
   injection h with h1 h2
   subst h2
   intro u hu
   split at hu
   ·exact hu
   ·exact List.mem_cons_of_mem _ hu
  ·rw [nx,if_neg hc] at h
   cases h
theorem num_sim {ts:List Tk} (h:GoodT ts) (hd:NumT ts):Sim (keptNum ⟨ts,false⟩) (num ts):=by
 have hs:=take0_sim (k:=2) h (by decide)
 unfold keptNum
 obtain ⟨t,l,rfl⟩:=gt_cons h
 by_cases hk:t.k = 2
 ·rw [nx_ok ⟨hk,rfl⟩ (by decide)] at hs
  obtain ⟨h1,h2⟩:=hs
  rw [num_okT hk,h1]
  exact ⟨by simp only [hd t List.mem_cons_self hk],h2⟩
 ·rw [nx_no (fun x=>hk x.1)] at hs
  rw [num_no hk]
  exact hs
theorem see_cm {t:Tk} {l:List Tk}:keptSee 5 [44] ⟨t :: l,false⟩ = isCm (t :: l):=rfl
theorem see_at {t:Tk} {l:List Tk}:keptSee 1 [97,116] ⟨t :: l,false⟩ = isAtB (t :: l):=rfl
theorem take_cm {t:Tk} {l:List Tk} (h:isCm (t :: l) = true):(keptTake 5 [44] ⟨t :: l,false⟩) = ([44],⟨l,false⟩)∧t.k = 5:=by
 simp only [isCm,Bool.and_eq_true,decide_eq_true_eq] at h
 have hs:t.s = [44]:=by simpa using h.2
 unfold keptTake
 simp only [Bool.false_eq_true,if_false]
 rw [if_pos ⟨h.1,.inr hs⟩,hs]
 exact ⟨rfl,h.1⟩
theorem take_at {t:Tk} {l:List Tk} (h:isAtB (t :: l) = true):(keptTake 1 [97,116] ⟨t :: l,false⟩) = ([97,116],⟨l,false⟩)∧t.k = 1:=by
 simp only [isAtB,Bool.and_eq_true,decide_eq_true_eq] at h
 have hs:t.s = [97,116]:=by simpa using h.2
 unfold keptTake
 simp only [Bool.false_eq_true,if_false]
 rw [if_pos ⟨h.1,.inr hs⟩,hs]
 exact ⟨rfl,h.1⟩
theorem fs_sim:∀ (n:Nat) (ts:List Tk) (fs:List (List UInt8)),ts.length≤n→GoodT ts→Sim (keptFs n ⟨ts,false⟩ fs) (moreF ts fs)
 | 0,ts,fs,hn,h=>by
  obtain ⟨t,l,rfl⟩:=gt_cons h
  simp at hn
 | n + 1,ts,fs,hn,h=>by
  obtain ⟨t,l,rfl⟩:=gt_cons h
  rw [keptFs,see_cm]
  by_cases hc:isCm (t :: l) = true
  ·obtain ⟨ht,hk⟩:=take_cm hc
   rw [if_pos hc,ht]
   have h2:=gt_tail h (by rw [hk]; decide)
   obtain ⟨u,r,rfl⟩:=gt_cons h2
   have hs:=name_sim h2
   by_cases hu:u.k = 1∧nameR u.s = true
   ·rw [nx_ok hu (by decide)] at hs
    rw [moreF_ok hc hu,hs.1]
    exact fs_sim n r _ (by simp only [List.length_cons] at hn; omega) hs.2
   ·rw [nx_no hu] at hs
    rw [moreF_no hc hu,bad_fs hs.1]
    exact hs
  ·have hc:isCm (t :: l) = false:=by simpa using hc
   rw [if_neg (by rw [hc]; simp),moreF_end hc]
   exact ⟨rfl,h⟩
theorem lab_sim {ts:List Tk} (h:GoodT ts) (hd:NumT ts):Sim (keptLab ⟨ts,false⟩) (lab ts):=by
 have h1:=take0_sim (k:=4) h (by decide)
 unfold lab keptLab
 cases hx:nx 4 everyB ts with
 | error e =>
  rw [hx] at h1
  have hb:(keptTake 4 [] ⟨ts,false⟩).2.bad = true:=h1.1
  rw [bad_num hb,bad_num hb]
  exact h1
 | ok p =>
  obtain ⟨s,l⟩:=p
  rw [hx] at h1
  obtain ⟨e1,g1⟩:=h1
  have d1:NumT l:=numT_of hd (nx_suf hx)
  rw [e1]
  show Sim _ (thn (num l) _)
  have h2:=num_sim g1 d1
  cases hy:num l with
  | error e =>
   rw [hy] at h2
   have hb:(keptNum ⟨l,false⟩).2.bad = true:=h2.1
   show Bd (keptNum (keptNum ⟨l,false⟩).2).2 e
   rw [bad_num hb]
   exact h2
  | ok q =>
   obtain ⟨v,l2⟩:=q
   rw [hy] at h2
   obtain ⟨e2,g2⟩:=h2
   have d2:NumT l2:=by
    unfold num at hy
    cases hz:nx 2 everyB l with
    | error e=>rw [hz] at hy; cases hy
    | ok z =>
     rw [hz] at hy
     injection hy with hy
     injection hy with h3 h4
     subst h4
     exact numT_of d1 (nx_suf hz)
   show Sim ((⟨s,(keptNum ⟨l,false⟩).1,(keptNum (keptNum ⟨l,false⟩).2).1⟩:Lb),(keptNum (keptNum ⟨l,false⟩).2).2) (thn (num l2) _)
   rw [e2]
   have h3:=num_sim g2 d2
   cases hw:num l2 with
   | error e=>rw [hw] at h3; exact h3
   | ok u =>
    obtain ⟨v3,l3⟩:=u
    rw [hw] at h3
    obtain ⟨e3,g3⟩:=h3
    show (_:Lb × RS) = (_,_)∧_
    rw [e3]
    exact ⟨rfl,g3⟩
theorem ls_sim:∀ (n:Nat) (ts:List Tk) (ls:List Lb),ts.length≤n→GoodT ts→NumT ts→Sim (keptLs n ⟨ts,false⟩ ls) (moreL ts ls)
 | 0,ts,ls,hn,h,_=>by
  obtain ⟨t,l,rfl⟩:=gt_cons h
  simp at hn
 | n + 1,ts,ls,hn,h,hd=>by
  obtain ⟨t,l,rfl⟩:=gt_cons h
  rw [keptLs,see_cm]
  by_cases hc:isCm (t :: l) = true
  ·obtain ⟨ht,hk⟩:=take_cm hc
   rw [if_pos hc,ht]
   have h2:=gt_tail h (by rw [hk]; decide)
   have d2:NumT l:=numT_of hd fun u hu=>List.mem_cons_of_mem _ hu
   have hs:=lab_sim h2 d2
   obtain ⟨a,r,rfl⟩:=gt_cons h2
   by_cases ha:a.k = 4
   ·have h3:=gt_tail h2 (by rw [ha]; decide)
    obtain ⟨b,r,rfl⟩:=gt_cons h3
    by_cases hb:b.k = 2
    ·have h4:=gt_tail h3 (by rw [hb]; decide)
     obtain ⟨c,r,rfl⟩:=gt_cons h4
     by_cases hc':c.k = 2
     ·rw [lab_ok ha hb hc'] at hs
      rw [moreL_ok hc ha hb hc',hs.1]
      exact ls_sim n r _ (by simp only [List.length_cons] at hn; omega) hs.2 (numT_of d2 fun u hu=>List.mem_cons_of_mem _ (List.mem_cons_of_mem _ (List.mem_cons_of_mem _ hu)))
     ·rw [lab_no2 ha hb hc'] at hs
      rw [moreL_no2 hc ha hb hc',bad_ls hs.1]
      exact hs
    ·rw [lab_no1 ha hb] at hs
     rw [moreL_no1 hc ha hb,bad_ls hs.1]
     exact hs
   ·rw [lab_no0 ha] at hs
    rw [moreL_no0 hc ha,bad_ls hs.1]
    exact hs
  ·have hc:isCm (t :: l) = false:=by simpa using hc
   rw [if_neg (by rw [hc]; simp),moreL_end hc]
   exact ⟨rfl,h⟩
def SimR (y:Rq × RS) (x:Except Int Rq):Prop:=
 match x with
 | .ok r=>y.1 = r∧y.2.bad = false∧∃ t l,y.2.ts = t :: l∧t.k = 6
 | .error e=>(y.2.bad = true∨∃ t l,y.2.ts = t :: l∧t.k ≠ 6)∧∃ t l,y.2.ts = t :: l∧t.a = e
theorem bd_simR {y:Rq × RS} {x:Except Int Rq} {e:Int} (hx:x = .error e) (h:Bd y.2 e):SimR y x:=by
 subst hx; exact ⟨.inl h.1,h.2⟩
theorem k21_sim {r:Rq} {ts:List Tk} (h:GoodT ts):SimR (r,⟨ts,false⟩) (k21 r ts):=by
 obtain ⟨t,l,rfl⟩:=gt_cons h
 unfold k21
 by_cases hk:t.k = 6
 ·rw [nx,if_pos ⟨hk,rfl⟩]
  exact ⟨rfl,rfl,t,l,rfl,hk⟩
 ·rw [nx_no (fun x=>hk x.1)]
  exact ⟨.inr ⟨t,l,rfl,hk⟩,t,l,rfl,rfl⟩
theorem at_sim {r:Rq} {ts:List Tk} (h:GoodT ts) (hd:NumT ts) (_hr:r.labels = []):SimR (keptAt r ⟨ts,false⟩) (k18 r ts):=by
 obtain ⟨t,l,rfl⟩:=gt_cons h
 unfold keptAt k18
 rw [see_at]
 by_cases hc:isAtB (t :: l) = true
 ·obtain ⟨ht,hk⟩:=take_at hc
  rw [if_pos hc,if_pos hc,ht]
  have h2:=gt_tail h (by rw [hk]; decide)
  have d2:NumT l:=numT_of hd fun u hu=>List.mem_cons_of_mem _ hu
  have hs:=lab_sim h2 d2
  show SimR ({ r with labels:=(keptLs _ (keptLab ⟨l,false⟩).2 [(keptLab ⟨l,false⟩).1]).1 },(keptLs _ (keptLab ⟨l,false⟩).2 [(keptLab ⟨l,false⟩).1]).2) (thn (lab l) _)
  cases hx:lab l with
  | error e =>
   rw [hx] at hs
   rw [bad_ls hs.1]
   exact bd_simR rfl hs
  | ok p =>
   obtain ⟨a,l2⟩:=p
   rw [hx] at hs
   obtain ⟨e1,g1⟩:=hs
   rw [e1]
   have d3:NumT l2:=by
    obtain ⟨u,v,rfl⟩:=gt_cons h2
    by_cases h4:u.k = 4
    ·have g3:=gt_tail h2 (by rw [h4]; decide)
     obtain ⟨b,v,rfl⟩:=gt_cons g3
     by_cases h5:b.k = 2
     ·have g4:=gt_tail g3 (by rw [h5]; decide)
      obtain ⟨c,v,rfl⟩:=gt_cons g4
      by_cases h6:c.k = 2
      ·rw [lab_ok h4 h5 h6] at hx
       injection hx with hx
       injection hx with _ hx
       subst hx
       exact numT_of d2 fun w hw=>List.mem_cons_of_mem _ (List.mem_cons_of_mem _ (List.mem_cons_of_mem _ hw))
      ·rw [lab_no2 h4 h5 h6] at hx; cases hx
     ·rw [lab_no1 h4 h5] at hx; cases hx
    ·rw [lab_no0 h4] at hx; cases hx
   have h3:=ls_sim l2.length l2 [a] (Nat.le_refl _) g1 d3
   show SimR ({ r with labels:=(keptLs l2.length ⟨l2,false⟩ [a]).1 },(keptLs l2.length ⟨l2,false⟩ [a]).2) (kMl r l2 [a])
   unfold kMl
   cases hy:moreL l2 [a] with
   | error e =>
    rw [hy] at h3
    exact bd_simR rfl h3
   | ok q =>
    obtain ⟨ls,l3⟩:=q
    rw [hy] at h3
    rw [h3.1]
    exact k21_sim h3.2
 ·have hc:isAtB (t :: l) = false:=by simpa using hc
  rw [hc,if_neg (by simp),if_neg (by simp)]
  exact k21_sim h
theorem sim_num_suf {ts l:List Tk} {v:Int} (hy:num ts = .ok (v,l)):∀ t ∈ l,t ∈ ts:=by
 unfold num at hy
 cases hz:nx 2 everyB ts with
 | error e=>rw [hz] at hy; cases hy
 | ok z =>
  rw [hz] at hy
  injection hy with hy
  injection hy with h3 h4
  subst h4
  exact nx_suf hz
theorem at_bd {r:Rq} {x:RS} {e:Int} (h:Bd x e):SimR (keptAt r x) (.error e):=bd_simR rfl (by rw [bad_at h.1]; exact h)
theorem sd_sim {r:Rq} {ts:List Tk} (h:GoodT ts) (hd:NumT ts) (hr:r.labels = []):SimR (keptSd r ⟨ts,false⟩) (k14 r ts):=by
 unfold k14 keptSd
 have h1:=take_sim (k:=1) (tx:=[115,101,101,100]) h (by decide) (by decide)
 cases hx:nx 1 (· == [115,101,101,100]) ts with
 | error e =>
  rw [hx] at h1
  simp only [bad_num h1.1,bad_take h1.1]
  exact at_bd h1
 | ok p =>
  obtain ⟨s,l⟩:=p
  rw [hx] at h1
  obtain ⟨e1,g1⟩:=h1
  have d1:NumT l:=numT_of hd (nx_suf hx)
  simp only [e1,thn]
  unfold k15
  have h2:=num_sim g1 d1
  cases hy:num l with
  | error e =>
   rw [hy] at h2
   simp only [bad_num h2.1,bad_take h2.1]
   exact at_bd h2
  | ok q =>
   obtain ⟨v,l2⟩:=q
   rw [hy] at h2
   obtain ⟨e2,g2⟩:=h2
   have d2:NumT l2:=numT_of d1 (sim_num_suf hy)
   simp only [e2,thn]
   unfold k16
   have h3:=take_sim (k:=1) (tx:=[107,101,101,112]) g2 (by decide) (by decide)
   cases hz:nx 1 (· == [107,101,101,112]) l2 with
   | error e =>
    rw [hz] at h3
    simp only [bad_num h3.1]
    exact at_bd h3
   | ok u =>
    obtain ⟨s3,l3⟩:=u
    rw [hz] at h3
    obtain ⟨e3,g3⟩:=h3
    have d3:NumT l3:=numT_of d2 (nx_suf hz)
    simp only [e3,thn]
    unfold k17
    have h4:=num_sim g3 d3
    cases hw:num l3 with
    | error e =>
     rw [hw] at h4
     exact at_bd h4
    | ok y =>
     obtain ⟨v4,l4⟩:=y
     rw [hw] at h4
     obtain ⟨e4,g4⟩:=h4
     simp only [e4,thn]
     exact at_sim g4 (numT_of d3 (sim_num_suf hw)) hr
theorem moreF_suf:∀ (n:Nat) (ts:List Tk) (fs fs':List (List UInt8)) (l:List Tk),ts.length≤n→moreF ts fs = .ok (fs',l)→∀ t ∈ l,t ∈ ts
 | 0,ts,fs,fs',l,hn,h=>by
  have:ts = []:=List.eq_nil_of_length_eq_zero (by omega)
  subst this
  simp only [moreF,Except.ok.injEq,Prod.mk.injEq] at h
  obtain ⟨_,rfl⟩:=h
  exact fun t ht=>ht
 | n + 1,ts,fs,fs',l,hn,h=>by
  match ts,hn,h with
  | [],_,h=>simp only [moreF,Except.ok.injEq,Prod.mk.injEq] at h; obtain ⟨_,rfl⟩:=h; exact fun t ht=>ht
  | [t],_,h=>simp only [moreF,Except.ok.injEq,Prod.mk.injEq] at h; obtain ⟨_,rfl⟩:=h; exact fun t ht=>ht
  | t :: u :: r,hn,h =>
   rw [moreF] at h
   split at h
   ·split at h
    ·have:=moreF_suf n r _ _ _ (by simp only [List.length_cons] at hn; omega) h
     exact fun v hv=>List.mem_cons_of_mem _ (List.mem_cons_of_mem _ (this v hv))
    ·cases h
   ·simp only [Except.ok.injEq,Prod.mk.injEq] at h
    obtain ⟨_,rfl⟩:=h
    exact fun t ht=>ht
theorem sd_bd {r:Rq} {x:RS} {e:Int} (h:Bd x e):SimR (keptSd r x) (.error e):=bd_simR rfl (by rw [bad_sd h.1]; exact h)
theorem req_sim {ts:List Tk} (h:GoodT ts) (hd:NumT ts):SimR (keptReq ⟨ts,false⟩) (parseTk ts):=by
 unfold parseTk keptReq
 have h1:=take_sim (k:=1) (tx:=[111,102]) h (by decide) (by decide)
 cases hx:nx 1 (· == [111,102]) ts with
 | error e =>
  rw [hx] at h1
  simp only [bad_name h1.1,bad_take h1.1,bad_fs h1.1]
  exact sd_bd h1
 | ok p =>
  obtain ⟨s,l⟩:=p
  rw [hx] at h1
  obtain ⟨e1,g1⟩:=h1
  have d1:NumT l:=numT_of hd (nx_suf hx)
  simp only [e1,thn]
  unfold k11
  have h2:=name_sim g1
  cases hy:nx 1 nameR l with
  | error e =>
   rw [hy] at h2
   simp only [bad_name h2.1,bad_take h2.1,bad_fs h2.1]
   exact sd_bd h2
  | ok q =>
   obtain ⟨en,l2⟩:=q
   rw [hy] at h2
   obtain ⟨e2,g2⟩:=h2
   have d2:NumT l2:=numT_of d1 (nx_suf hy)
   simp only [e2,thn]
   unfold k12
   have h3:=take_sim (k:=1) (tx:=[116,97,107,101]) g2 (by decide) (by decide)
   cases hz:nx 1 (· == [116,97,107,101]) l2 with
   | error e =>
    rw [hz] at h3
    simp only [bad_name h3.1,bad_fs h3.1]
    exact sd_bd h3
   | ok u =>
    obtain ⟨s3,l3⟩:=u
    rw [hz] at h3
    obtain ⟨e3,g3⟩:=h3
    have d3:NumT l3:=numT_of d2 (nx_suf hz)
    simp only [e3,thn]
    unfold k13
    have h4:=name_sim g3
    cases hw:nx 1 nameR l3 with
    | error e =>
     rw [hw] at h4
     simp only [bad_fs h4.1]
     exact sd_bd h4
    | ok y =>
     obtain ⟨f,l4⟩:=y
     rw [hw] at h4
     obtain ⟨e4,g4⟩:=h4
     have d4:NumT l4:=numT_of d3 (nx_suf hw)
     simp only [e4,thn]
     unfold kMf
     have h5:=fs_sim l4.length l4 [f] (Nat.le_refl _) g4
     cases hv:moreF l4 [f] with
     | error e =>
      rw [hv] at h5
      exact sd_bd h5
     | ok w =>
      obtain ⟨fs,l5⟩:=w
      rw [hv] at h5
      simp only [h5.1,thn]
      exact sd_sim h5.2 (numT_of d4 (moreF_suf _ _ _ _ _ (Nat.le_refl _) hv)) rfl
/-! more rounds than tokens change nothing -/
theorem take_len {k:Int} {tx:List UInt8} {x:RS}:(keptTake k tx x).2.ts.length≤x.ts.length:=by
 obtain ⟨ts,b⟩:=x
 unfold keptTake
 split
 ·exact Nat.le_refl _
 ·cases ts with
  | nil=>exact Nat.le_refl _
  | cons t l =>
   simp only
   split
   ·simp
   ·exact Nat.le_refl _
theorem pre_len {x:RS}:(keptPre x).ts.length = x.ts.length:=by
 obtain ⟨ts,b⟩:=x
 unfold keptPre
 split
 ·rfl
 ·cases ts with
  | nil=>rfl
  | cons t l=>simp only; split <;> rfl
theorem name_len {x:RS}:(keptName x).2.ts.length≤x.ts.length:=by unfold keptName; exact Nat.le_trans take_len (Nat.le_of_eq pre_len)
theorem num_len {x:RS}:(keptNum x).2.ts.length≤x.ts.length:=take_len
theorem lab_len {x:RS}:(keptLab x).2.ts.length≤x.ts.length:=Nat.le_trans num_len (Nat.le_trans num_len take_len)
theorem see_len {k:Int} {tx:List UInt8} {x:RS} (h:keptSee k tx x = true):(keptTake k tx x).2.ts.length < x.ts.length:=by
 obtain ⟨ts,b⟩:=x
 unfold keptSee at h
 unfold keptTake
 split at h
 ·cases h
 ·rename_i hb
  rw [if_neg hb]
  cases ts with
  | nil=>cases h
  | cons t l =>
   simp only [Bool.and_eq_true,decide_eq_true_eq] at h
   simp only
   rw [if_pos ⟨h.1,.inr (by simpa using h.2)⟩]
   simp
theorem fs_more:∀ (n:Nat) (x:RS) (fs:List (List UInt8)),x.ts.length≤n→keptFs n x fs = keptFs x.ts.length x fs
 | 0,x,fs,h=>by rw [show x.ts.length = 0 by omega]
 | n + 1,x,fs,h=>by
  by_cases hs:keptSee 5 [44] x = true
  ·have hl:=see_len hs
   obtain ⟨k,hk⟩:∃ k,x.ts.length = k + 1:=⟨x.ts.length - 1,by omega⟩
   rw [hk,keptFs,keptFs,if_pos hs,if_pos hs]
   have h2:(keptName (keptTake 5 [44] x).2).2.ts.length≤k:=Nat.le_trans name_len (by omega)
   rw [fs_more n _ _ (by omega),fs_more k _ _ h2]
  ·rw [keptFs,if_neg hs]
   cases hk:x.ts.length with
   | zero=>rfl
   | succ k=>rw [keptFs,if_neg hs]
theorem ls_more:∀ (n:Nat) (x:RS) (fs:List Lb),x.ts.length≤n→keptLs n x fs = keptLs x.ts.length x fs
 | 0,x,fs,h=>by rw [show x.ts.length = 0 by omega]
 | n + 1,x,fs,h=>by
  by_cases hs:keptSee 5 [44] x = true
  ·have hl:=see_len hs
   obtain ⟨k,hk⟩:∃ k,x.ts.length = k + 1:=⟨x.ts.length - 1,by omega⟩
   rw [hk,keptLs,keptLs,if_pos hs,if_pos hs]
   have h2:(keptLab (keptTake 5 [44] x).2).2.ts.length≤k:=Nat.le_trans lab_len (by omega)
   rw [ls_more n _ _ (by omega),ls_more k _ _ h2]
  ·rw [keptLs,if_neg hs]
   cases hk:x.ts.length with
   | zero=>rfl
   | succ k=>rw [keptLs,if_neg hs]
def keptUn (es:List AV):List Tk:=es.map fun a=>(unTk a).getD default
theorem keptUn_ok (ts:List Tk):keptUn (toksL ts) = ts:=by
 unfold keptUn
 rw [List.map_map]
 conv=>rhs; rw [← List.map_id ts]
 exact List.map_congr_left fun t _=>rfl
def rb (x:RS):List AV:=[.sl 3 (toksL x.ts) .no,.bool x.bad]
def q4 (b0:List AV) (x:RS) (b2 b3:List AV) (lv:List (Nat × TypeId)):St:=⟨[some b0,some (rb x),none,some b2,some b3],lv⟩
def q6 (b0:List AV) (x:RS) (b2 b3 b4:List AV) (b5:Option (List AV)) (lv:List (Nat × TypeId)):St:=⟨[some b0,some (rb x),none,some b2,some b3,some b4,b5],lv⟩
structure TokL (es:List AV):Prop where
 out:∃ ts,es = toksL ts
def s97:PSpec:=fun args S=>match args,S with
 | [.ptr 1 0,.int .i64 k,.str tx],⟨[some b0,some [.sl 3 es .no,.bool bd],none,some b2,some b3],lv⟩ =>
  some (TokL es∧pOk 5 b0∧pOk 5 b2∧pOk 5 b3,[⟨True,none,.str (keptTake k tx ⟨keptUn es,bd⟩).1,q4 b0 (keptTake k tx ⟨keptUn es,bd⟩).2 b2 b3 lv⟩])
 | [.ptr 1 0,.int .i64 k,.str tx],⟨[some b0,some [.sl 3 es .no,.bool bd],none,some b2,some b3,some b4,none],lv⟩ =>
  some (TokL es∧pOk 7 b0∧pOk 7 b2∧pOk 7 b3∧pOk 7 b4,[⟨True,none,.str (keptTake k tx ⟨keptUn es,bd⟩).1,q6 b0 (keptTake k tx ⟨keptUn es,bd⟩).2 b2 b3 b4 none lv⟩])
 | [.ptr 1 0,.int .i64 k,.str tx],⟨[some b0,some [.sl 3 es .no,.bool bd],none,some b2,some b3,some b4,some b5],lv⟩ =>
  some (TokL es∧pOk 7 b0∧pOk 7 b2∧pOk 7 b3∧pOk 7 b4∧pOk 7 b5,[⟨True,none,.str (keptTake k tx ⟨keptUn es,bd⟩).1,q6 b0 (keptTake k tx ⟨keptUn es,bd⟩).2 b2 b3 b4 (some b5) lv⟩])
 | _,_=>none
def s98:PSpec:=fun args S=>match args,S with
 | [.ptr 1 0],⟨[some b0,some [.sl 3 es .no,.bool bd],none,some b2,some b3],lv⟩ =>
  some (TokL es∧pOk 5 b0∧pOk 5 b2∧pOk 5 b3,[⟨True,none,.str (keptName ⟨keptUn es,bd⟩).1,q4 b0 (keptName ⟨keptUn es,bd⟩).2 b2 b3 lv⟩])
 | _,_=>none
def s99:PSpec:=fun args S=>match args,S with
 | [.ptr 1 0,.int .i64 k,.str tx],⟨[some b0,some [.sl 3 es .no,.bool bd],none,some b2,some b3],lv⟩ =>
  some (TokL es∧pOk 5 b0∧pOk 5 b2∧pOk 5 b3,[⟨keptSee k tx ⟨keptUn es,bd⟩ = true,none,.bool true,⟨[some b0,some [.sl 3 es .no,.bool bd],none,some b2,some b3],lv⟩⟩,⟨keptSee k tx ⟨keptUn es,bd⟩ = false,none,.bool false,⟨[some b0,some [.sl 3 es .no,.bool bd],none,some b2,some b3],lv⟩⟩])
 | _,_=>none
def s100:PSpec:=fun args S=>match args,S with
 | [.ptr 1 0],⟨[some b0,some [.sl 3 es .no,.bool bd],none,some b2,some b3],lv⟩ =>
  some (TokL es∧pOk 5 b0∧pOk 5 b2∧pOk 5 b3∧(keptTake 2 [] ⟨keptUn es,bd⟩).1.length≤maxI,[⟨True,none,.int .i64 (keptNum ⟨keptUn es,bd⟩).1,q4 b0 (keptNum ⟨keptUn es,bd⟩).2 b2 b3 lv⟩])
 | [.ptr 1 0],⟨[some b0,some [.sl 3 es .no,.bool bd],none,some b2,some b3,some b4,some b5],lv⟩ =>
  some (TokL es∧pOk 7 b0∧pOk 7 b2∧pOk 7 b3∧pOk 7 b4∧pOk 7 b5∧(keptTake 2 [] ⟨keptUn es,bd⟩).1.length≤maxI,[⟨True,none,.int .i64 (keptNum ⟨keptUn es,bd⟩).1,q6 b0 (keptNum ⟨keptUn es,bd⟩).2 b2 b3 b4 (some b5) lv⟩])
 | _,_=>none
def shortR (x:RS):Prop:=∀ t ∈ x.ts,t.s.length≤maxI
def s101:PSpec:=fun args S=>match args,S with
 | [.ptr 1 0],⟨[some b0,some [.sl 3 es .no,.bool bd],none,some b2,some b3],lv⟩ =>
  some (TokL es∧shortR ⟨keptUn es,bd⟩∧(pOk 5 b0∧pOk 5 b2∧pOk 5 b3)∧pOk 7 b0∧pOk 7 b2∧pOk 7 b3,[⟨True,none,.agg [.str (keptLab ⟨keptUn es,bd⟩).1.key,.int .i64 (keptLab ⟨keptUn es,bd⟩).1.event,.int .i64 (keptLab ⟨keptUn es,bd⟩).1.know],q4 b0 (keptLab ⟨keptUn es,bd⟩).2 b2 b3 lv⟩])
 | _,_=>none
def rqV (r:Rq):AV:=.agg [.str r.entity,.sl 1 (strsL r.feats) (.tok 0),.sl 3 (lbsL r.labels) (.tok 1),.int .i64 r.seed,.int .i64 r.permille]
def s48:PSpec:=fun args S=>match args,S with
 | [.ptr 1 0],⟨[some b0,some [.sl 3 es .no,.bool bd],none],[]⟩ =>
  some (TokL es∧(keptUn es).length≤900000∧shortR ⟨keptUn es,bd⟩∧pOk 3 b0∧pOk 5 b0∧pOk 7 b0,[⟨True,none,rqV (keptReq ⟨keptUn es,bd⟩).1,⟨[some b0,some (rb (keptReq ⟨keptUn es,bd⟩).2),none],[((keptReq ⟨keptUn es,bd⟩).1.feats.length,9),((keptReq ⟨keptUn es,bd⟩).1.labels.length,65)]⟩⟩])
 | _,_=>none
def XR:Shapes:=fun f=>match f with
 | 77=>some shB
 | _=>none
def a100 (nb:Nat) (S:St) (s:List UInt8):Anns:=⟨fun k=>if k = 4 then some { α:=Nat,slots:=[0,3,4,5],nb:=nb,vals:=fun i=>[.ptr 1 0,.str s,.int .i64 (digV (s.take i)),.int .i64 i],sS:=fun _=>S,I:=fun i=>i≤s.length,μ:=fun i=>s.length - i } else none,nA⟩
def fsR (f:FuncId):Bool:=f = 97 || f = 98 || f = 99 || f = 100 || f = 101 || f = 48
/-! the continuations of the reader -/
def kFs (en:List UInt8) (x:RS) (fs:List (List UInt8)):Rq × RS:=keptSd ⟨en,(keptFs x.ts.length x fs).1,[],0,0⟩ (keptFs x.ts.length x fs).2
def kk5 (en:List UInt8) (x:RS):Rq × RS:=kFs en (keptName x).2 [(keptName x).1]
def kLs (r:Rq) (x:RS) (ls:List Lb):Rq × RS:=({ r with labels:=(keptLs x.ts.length x ls).1 },(keptLs x.ts.length x ls).2)
def kk15 (r:Rq) (x:RS):Rq × RS:=kLs r (keptLab x).2 [(keptLab x).1]
structure R48 where
 en:List UInt8
 fs:List (List UInt8)
 ls:List Lb
 sd:Int
 pm:Int
 x:RS
def zq:List AV:=[.str [],.sl 0 [] .nil,.sl 0 [] .nil,.int .i64 0,.int .i64 0]
def c48 (b0:List AV) (rc:R48→List AV) (lv:R48→List (Nat × TypeId)) (I:R48→Prop) (mb:List (Nat × TypeId)) (mu:R48→Nat):Option Ann:=
 some { α:=R48,slots:=[0,2,3],nb:=5,vals:=fun _=>[.ptr 1 0,.ptr 3 0,.ptr 4 0],sS:=fun y=>q4 b0 y.x zq (rc y) (lv y),I:=I,μ:=mu,mintB:=mb }
def rc0 (y:R48):List AV:=[.str y.en,.sl 1 [] (.tok 0),.sl 0 [] .nil,.int .i64 0,.int .i64 0]
def rc1 (y:R48):List AV:=[.str y.en,.sl 1 (strsL y.fs) (.tok 0),.sl 0 [] .nil,.int .i64 0,.int .i64 0]
def rc3 (y:R48):List AV:=[.str y.en,.sl 1 (strsL y.fs) (.tok 0),.sl 3 [] (.tok 1),.int .i64 y.sd,.int .i64 y.pm]
def rc4 (y:R48):List AV:=[.str y.en,.sl 1 (strsL y.fs) (.tok 0),.sl 3 (lbsL y.ls) (.tok 1),.int .i64 y.sd,.int .i64 y.pm]
def a48 (b0:List AV) (x0:RS):Anns:=⟨fun k=>match k with
 | 1000005=>c48 b0 rc0 (fun _=>[(0,9)]) (fun y=>keptReq x0 = kk5 y.en y.x∧shortR y.x∧y.x.ts.length≤x0.ts.length) [(1004,9)] (fun _=>0)
 | 6=>c48 b0 rc1 (fun y=>[(y.fs.length,9)]) (fun y=>keptReq x0 = kFs y.en y.x y.fs∧shortR y.x∧y.fs.length + y.x.ts.length≤x0.ts.length + 1) [] (fun y=>y.x.ts.length)
 | 1000006=>c48 b0 rc1 (fun y=>[(y.fs.length,9)]) (fun y=>keptReq x0 = kFs y.en y.x y.fs∧shortR y.x∧y.fs.length + y.x.ts.length≤x0.ts.length + 1) [] (fun y=>y.x.ts.length)
 | 1000009=>c48 b0 rc1 (fun y=>[(y.fs.length,9)]) (fun y=>keptReq x0 = keptSd ⟨y.en,y.fs,[],0,0⟩ y.x∧shortR y.x∧y.x.ts.length≤x0.ts.length + 1) [] (fun _=>0)
 | 1000013=>c48 b0 rc3 (fun y=>[(y.fs.length,9),(0,65)]) (fun y=>keptReq x0 = keptAt ⟨y.en,y.fs,[],y.sd,y.pm⟩ y.x∧shortR y.x∧y.x.ts.length≤x0.ts.length + 1) [(2004,65)] (fun _=>0)
 | 1000015=>c48 b0 rc3 (fun y=>[(y.fs.length,9),(0,65)]) (fun y=>keptReq x0 = kk15 ⟨y.en,y.fs,[],y.sd,y.pm⟩ y.x∧shortR y.x∧y.x.ts.length≤x0.ts.length + 1) [] (fun _=>0)
 | 16=>c48 b0 rc4 (fun y=>[(y.fs.length,9),(y.ls.length,65)]) (fun y=>keptReq x0 = kLs ⟨y.en,y.fs,[],y.sd,y.pm⟩ y.x y.ls∧shortR y.x∧y.ls.length + y.x.ts.length≤x0.ts.length + 2) [] (fun y=>y.x.ts.length)
 | 1000016=>c48 b0 rc4 (fun y=>[(y.fs.length,9),(y.ls.length,65)]) (fun y=>keptReq x0 = kLs ⟨y.en,y.fs,[],y.sd,y.pm⟩ y.x y.ls∧shortR y.x∧y.ls.length + y.x.ts.length≤x0.ts.length + 2) [] (fun y=>y.x.ts.length)
 | 1000019=>c48 b0 rc4 (fun y=>[(y.fs.length,9),(y.ls.length,65)]) (fun y=>keptReq x0 = (⟨y.en,y.fs,y.ls,y.sd,y.pm⟩,y.x)) [] (fun _=>0)
 | _=>none,nA⟩
def tR:List (FuncId × Spec):=[(77,s40u)]
def g97:PCfg:={ ps:=[],A:=nAn }
def g98:PCfg:={ ps:=[3],A:=nAn }
def g100 (nb:Nat) (S:St) (s:List UInt8):PCfg:={ ps:=[1],A:=a100 nb S s }
def g101:PCfg:={ ps:=[1,2,3],A:=nAn }
def g48 (b0:List AV) (x0:RS):PCfg:={ ps:=[2,3,4,5,6,7,8,9,10,11,12,13,14,15,16,17,18],A:=a48 b0 x0 }
def g12:TCfg:={ ps:=[7],A:=nAn,dr:=99 }
def X12 (ts:List Tk) (pb:List Pb) (e:Int):Shapes:=fun f=>match f with
 | 47=>some (.tup [.one (.is (.sl 3 (toksL ts) .no)),.one (.is (.sl 2 (pbsL pb) .no)),.one (.is (.int .i64 e))],none)
 | 33=>some shB
 | _=>none
abbrev w97ac1 (b0:List AV) (ts:List Tk) (b2:List AV) (b3:List AV):List (Option (List AV)):=[some b0,some [AV.sl 3 (toksL ts) Own.no,AV.bool true],none,some b2,some b3]
abbrev w97ac2 (b0:List AV) (ts:List Tk) (bd:Bool) (b2:List AV) (b3:List AV):List (Option (List AV)):=[some b0,some [AV.sl 3 (List.drop 1 (List.take (toksL ts).length (toksL ts))) Own.no,AV.bool (bd)],none,some b2,some b3]
abbrev w97ac3 (ts:List Tk):Prop:=(0:Int)≤(0:Int)∧(0:Int) < (↑(toksL ts).length:Int)
theorem w97a (m:Int) (k:Int) (tx:List UInt8) (ts:List Tk) (bd:Bool) (b0 b2 b3:List AV) (lv:List (Nat × TypeId)) (os:List POut):(pnW PQ idMk (GQ m) XR (tbl tR) (itbl []) fsR J0 g97 97 [.ptr 1 0,.int .i64 k,.str tx] (q4 b0 ⟨ts,bd⟩ b2 b3 lv) os) =
(((bd) = true→PEnd (AV.p2 5 (AV.str []) && boxesOk 5 (w97ac1 b0 ts b2 b3)) none (AV.str []) { boxes:=(w97ac1 b0 ts b2 b3),live:=lv } os)∧((bd) = false→(((↑(toksL ts).length:Int) == (0:Int)) = true→PEnd (AV.p2 5 (AV.str []) && boxesOk 5 (w97ac1 b0 ts b2 b3)) none (AV.str []) { boxes:=(w97ac1 b0 ts b2 b3),live:=lv } os)∧(((↑(toksL ts).length:Int) == (0:Int)) = false→(w97ac3 ts)∧∃ (n:Int),takeAt PQ 3 (toksL ts) 0 0 = some (AV.int IntKind.i64 n)∧((n != k) = true→PEnd (AV.p2 5 (AV.str []) && boxesOk 5 (w97ac1 b0 ts b2 b3)) none (AV.str []) { boxes:=(w97ac1 b0 ts b2 b3),live:=lv } os)∧((n != k) = false→((!tx == []) = true→(w97ac3 ts)∧∃ (s:List UInt8),takeAt PQ 9 (toksL ts) 0 1 = some (AV.str s)∧((!s == tx) = true→PEnd (AV.p2 5 (AV.str []) && boxesOk 5 (w97ac1 b0 ts b2 b3)) none (AV.str []) { boxes:=(w97ac1 b0 ts b2 b3),live:=lv } os)∧((!s == tx) = false→(w97ac3 ts)∧∃ (s:List UInt8),takeAt PQ 9 (toksL ts) 0 1 = some (AV.str s)∧(0:Int)≤(1:Int)∧((1:Nat)≤(toksL ts).length∧(toksL ts).length≤(toksL ts).length)∧((3:Nat) = (3:Nat)∨toksL ts = [])∧PEnd (AV.p2 5 (AV.str s) && boxesOk 5 (w97ac2 b0 ts bd b2 b3)) none (AV.str s) { boxes:=(w97ac2 b0 ts bd b2 b3),live:=lv } os))∧((!tx == []) = false→(w97ac3 ts)∧∃ (s:List UInt8),takeAt PQ 9 (toksL ts) 0 1 = some (AV.str s)∧(0:Int)≤(1:Int)∧((1:Nat)≤(toksL ts).length∧(toksL ts).length≤(toksL ts).length)∧((3:Nat) = (3:Nat)∨toksL ts = [])∧PEnd (AV.p2 5 (AV.str s) && boxesOk 5 (w97ac2 b0 ts bd b2 b3)) none (AV.str s) { boxes:=(w97ac2 b0 ts bd b2 b3),live:=lv } os))))):=by kernel_rfl
abbrev w97bc1 (b0:List AV) (ts:List Tk) (b2:List AV) (b3:List AV) (b4:List AV):List (Option (List AV)):=[some b0,some [AV.sl 3 (toksL ts) Own.no,AV.bool true],none,some b2,some b3,some b4,none]
abbrev w97bc2 (b0:List AV) (ts:List Tk) (bd:Bool) (b2:List AV) (b3:List AV) (b4:List AV):List (Option (List AV)):=[some b0,some [AV.sl 3 (List.drop 1 (List.take (toksL ts).length (toksL ts))) Own.no,AV.bool (bd)],none,some b2,some b3,some b4,none]
abbrev w97bc3 (ts:List Tk):Prop:=(0:Int)≤(0:Int)∧(0:Int) < (↑(toksL ts).length:Int)
theorem w97b (m:Int) (k:Int) (tx:List UInt8) (ts:List Tk) (bd:Bool) (b0 b2 b3 b4:List AV) (lv:List (Nat × TypeId)) (os:List POut):(pnW PQ idMk (GQ m) XR (tbl tR) (itbl []) fsR J0 g97 97 [.ptr 1 0,.int .i64 k,.str tx] (q6 b0 ⟨ts,bd⟩ b2 b3 b4 none lv) os) =
(((bd) = true→PEnd (AV.p2 7 (AV.str []) && boxesOk 7 (w97bc1 b0 ts b2 b3 b4)) none (AV.str []) { boxes:=(w97bc1 b0 ts b2 b3 b4),live:=lv } os)∧((bd) = false→(((↑(toksL ts).length:Int) == (0:Int)) = true→PEnd (AV.p2 7 (AV.str []) && boxesOk 7 (w97bc1 b0 ts b2 b3 b4)) none (AV.str []) { boxes:=(w97bc1 b0 ts b2 b3 b4),live:=lv } os)∧(((↑(toksL ts).length:Int) == (0:Int)) = false→(w97bc3 ts)∧∃ (n:Int),takeAt PQ 3 (toksL ts) 0 0 = some (AV.int IntKind.i64 n)∧((n != k) = true→PEnd (AV.p2 7 (AV.str []) && boxesOk 7 (w97bc1 b0 ts b2 b3 b4)) none (AV.str []) { boxes:=(w97bc1 b0 ts b2 b3 b4),live:=lv } os)∧((n != k) = false→((!tx == []) = true→(w97bc3 ts)∧∃ (s:List UInt8),takeAt PQ 9 (toksL ts) 0 1 = some (AV.str s)∧((!s == tx) = true→PEnd (AV.p2 7 (AV.str []) && boxesOk 7 (w97bc1 b0 ts b2 b3 b4)) none (AV.str []) { boxes:=(w97bc1 b0 ts b2 b3 b4),live:=lv } os)∧((!s == tx) = false→(w97bc3 ts)∧∃ (s:List UInt8),takeAt PQ 9 (toksL ts) 0 1 = some (AV.str s)∧(0:Int)≤(1:Int)∧((1:Nat)≤(toksL ts).length∧(toksL ts).length≤(toksL ts).length)∧((3:Nat) = (3:Nat)∨toksL ts = [])∧PEnd (AV.p2 7 (AV.str s) && boxesOk 7 (w97bc2 b0 ts bd b2 b3 b4)) none (AV.str s) { boxes:=(w97bc2 b0 ts bd b2 b3 b4),live:=lv } os))∧((!tx == []) = false→(w97bc3 ts)∧∃ (s:List UInt8),takeAt PQ 9 (toksL ts) 0 1 = some (AV.str s)∧(0:Int)≤(1:Int)∧((1:Nat)≤(toksL ts).length∧(toksL ts).length≤(toksL ts).length)∧((3:Nat) = (3:Nat)∨toksL ts = [])∧PEnd (AV.p2 7 (AV.str s) && boxesOk 7 (w97bc2 b0 ts bd b2 b3 b4)) none (AV.str s) { boxes:=(w97bc2 b0 ts bd b2 b3 b4),live:=lv } os))))):=by kernel_rfl
abbrev w97cc1 (b0:List AV) (ts:List Tk) (b2:List AV) (b3:List AV) (b4:List AV) (b5:List AV):List (Option (List AV)):=[some b0,some [AV.sl 3 (toksL ts) Own.no,AV.bool true],none,some b2,some b3,some b4,some b5]
abbrev w97cc2 (b0:List AV) (ts:List Tk) (bd:Bool) (b2:List AV) (b3:List AV) (b4:List AV) (b5:List AV):List (Option (List AV)):=[some b0,some [AV.sl 3 (List.drop 1 (List.take (toksL ts).length (toksL ts))) Own.no,AV.bool (bd)],none,some b2,some b3,some b4,some b5]
abbrev w97cc3 (ts:List Tk):Prop:=(0:Int)≤(0:Int)∧(0:Int) < (↑(toksL ts).length:Int)
theorem w97c (m:Int) (k:Int) (tx:List UInt8) (ts:List Tk) (bd:Bool) (b0 b2 b3 b4 b5:List AV) (lv:List (Nat × TypeId)) (os:List POut):(pnW PQ idMk (GQ m) XR (tbl tR) (itbl []) fsR J0 g97 97 [.ptr 1 0,.int .i64 k,.str tx] (q6 b0 ⟨ts,bd⟩ b2 b3 b4 (some b5) lv) os) =
(((bd) = true→PEnd (AV.p2 7 (AV.str []) && boxesOk 7 (w97cc1 b0 ts b2 b3 b4 b5)) none (AV.str []) { boxes:=(w97cc1 b0 ts b2 b3 b4 b5),live:=lv } os)∧((bd) = false→(((↑(toksL ts).length:Int) == (0:Int)) = true→PEnd (AV.p2 7 (AV.str []) && boxesOk 7 (w97cc1 b0 ts b2 b3 b4 b5)) none (AV.str []) { boxes:=(w97cc1 b0 ts b2 b3 b4 b5),live:=lv } os)∧(((↑(toksL ts).length:Int) == (0:Int)) = false→(w97cc3 ts)∧∃ (n:Int),takeAt PQ 3 (toksL ts) 0 0 = some (AV.int IntKind.i64 n)∧((n != k) = true→PEnd (AV.p2 7 (AV.str []) && boxesOk 7 (w97cc1 b0 ts b2 b3 b4 b5)) none (AV.str []) { boxes:=(w97cc1 b0 ts b2 b3 b4 b5),live:=lv } os)∧((n != k) = false→((!tx == []) = true→(w97cc3 ts)∧∃ (s:List UInt8),takeAt PQ 9 (toksL ts) 0 1 = some (AV.str s)∧((!s == tx) = true→PEnd (AV.p2 7 (AV.str []) && boxesOk 7 (w97cc1 b0 ts b2 b3 b4 b5)) none (AV.str []) { boxes:=(w97cc1 b0 ts b2 b3 b4 b5),live:=lv } os)∧((!s == tx) = false→(w97cc3 ts)∧∃ (s:List UInt8),takeAt PQ 9 (toksL ts) 0 1 = some (AV.str s)∧(0:Int)≤(1:Int)∧((1:Nat)≤(toksL ts).length∧(toksL ts).length≤(toksL ts).length)∧((3:Nat) = (3:Nat)∨toksL ts = [])∧PEnd (AV.p2 7 (AV.str s) && boxesOk 7 (w97cc2 b0 ts bd b2 b3 b4 b5)) none (AV.str s) { boxes:=(w97cc2 b0 ts bd b2 b3 b4 b5),live:=lv } os))∧((!tx == []) = false→(w97cc3 ts)∧∃ (s:List UInt8),takeAt PQ 9 (toksL ts) 0 1 = some (AV.str s)∧(0:Int)≤(1:Int)∧((1:Nat)≤(toksL ts).length∧(toksL ts).length≤(toksL ts).length)∧((3:Nat) = (3:Nat)∨toksL ts = [])∧PEnd (AV.p2 7 (AV.str s) && boxesOk 7 (w97cc2 b0 ts bd b2 b3 b4 b5)) none (AV.str s) { boxes:=(w97cc2 b0 ts bd b2 b3 b4 b5),live:=lv } os))))):=by kernel_rfl
abbrev w98c2 (ts:List Tk) (bd:Bool):=keptTake (1:Int) (ByteArray.mk #[]).data.toList { ts:=keptUn (toksL ts),bad:=(bd) }
abbrev w98c1 (ts:List Tk) (bd:Bool) (b0:List AV) (b2:List AV) (b3:List AV) (lv:List (Nat × TypeId)) (os:List POut):Prop:=True→PEnd (AV.p2 5 (AV.str (w98c2 ts bd).fst) && boxesOk 5 [some b0,some [AV.sl 3 (toksL (w98c2 ts bd).snd.ts) Own.no,AV.bool (w98c2 ts bd).snd.bad],none,some b2,some b3]) none (AV.str (w98c2 ts bd).fst) { boxes:=[some b0,some [AV.sl 3 (toksL (w98c2 ts bd).snd.ts) Own.no,AV.bool (w98c2 ts bd).snd.bad],none,some b2,some b3],live:=lv } os
abbrev w98c3 (ts:List Tk) (b0:List AV) (b2:List AV) (b3:List AV):Prop:=TokL (toksL ts)∧b0.all (AV.p1 5) = true∧b2.all (AV.p1 5) = true∧b3.all (AV.p1 5) = true
abbrev w98c4 (ts:List Tk):=keptTake (1:Int) (ByteArray.mk #[]).data.toList { ts:=keptUn (toksL ts),bad:=true }
theorem w98 (m:Int) (ts:List Tk) (bd:Bool) (b0 b2 b3:List AV) (lv:List (Nat × TypeId)) (os:List POut):(pnW PQ idMk (GQ m) XR (tbl tR) (itbl []) fsR (ptbl [(97,s97)] J0) g98 98 [.ptr 1 0] (q4 b0 ⟨ts,bd⟩ b2 b3 lv) os) =
(((bd) = true→(w98c3 ts b0 b2 b3)∧(w98c1 ts bd b0 b2 b3 lv os)∧True)∧((bd) = false→(decide ((↑(toksL ts).length:Int) > (0:Int)) = true→((0:Int)≤(0:Int)∧(0:Int) < (↑(toksL ts).length:Int))∧∃ (s:List UInt8),takeAt PQ 9 (toksL ts) 0 1 = some (AV.str s)∧∃ (b:Bool),CallIs (some (AV.bool (nameR s),[])) (AV.bool b) []∧(b = true→(w98c3 ts b0 b2 b3)∧(w98c1 ts bd b0 b2 b3 lv os)∧True)∧(b = false→(w98c3 ts b0 b2 b3)∧(True→PEnd (AV.p2 5 (AV.str []) && boxesOk 5 [some b0,some [AV.sl 3 (toksL (w98c4 ts).snd.ts) Own.no,AV.bool (w98c4 ts).snd.bad],none,some b2,some b3]) none (AV.str []) { boxes:=[some b0,some [AV.sl 3 (toksL (w98c4 ts).snd.ts) Own.no,AV.bool (w98c4 ts).snd.bad],none,some b2,some b3],live:=lv } os)∧True))∧(decide ((↑(toksL ts).length:Int) > (0:Int)) = false→(w98c3 ts b0 b2 b3)∧(w98c1 ts bd b0 b2 b3 lv os)∧True))):=by kernel_rfl
abbrev w99c1 (b0:List AV) (ts:List Tk) (bd:Bool) (b2:List AV) (b3:List AV):List (Option (List AV)):=[some b0,some [AV.sl 3 (toksL ts) Own.no,AV.bool (bd)],none,some b2,some b3]
theorem w99 (m:Int) (k:Int) (tx:List UInt8) (ts:List Tk) (bd:Bool) (b0 b2 b3:List AV) (lv:List (Nat × TypeId)) (os:List POut):(pnW PQ idMk (GQ m) XR (tbl tR) (itbl []) fsR J0 g97 99 [.ptr 1 0,.int .i64 k,.str tx] (q4 b0 ⟨ts,bd⟩ b2 b3 lv) os) =
(((bd) = true→PEnd (AV.p2 5 (AV.bool false) && boxesOk 5 (w99c1 b0 ts bd b2 b3)) none (AV.bool false) { boxes:=(w99c1 b0 ts bd b2 b3),live:=lv } os)∧((bd) = false→(decide ((↑(toksL ts).length:Int) > (0:Int)) = true→((0:Int)≤(0:Int)∧(0:Int) < (↑(toksL ts).length:Int))∧∃ (n:Int),takeAt PQ 3 (toksL ts) 0 0 = some (AV.int IntKind.i64 n)∧((n == k) = true→((0:Int)≤(0:Int)∧(0:Int) < (↑(toksL ts).length:Int))∧∃ (s:List UInt8),takeAt PQ 9 (toksL ts) 0 1 = some (AV.str s)∧((s == tx) = true→PEnd (AV.p2 5 (AV.bool true) && boxesOk 5 (w99c1 b0 ts bd b2 b3)) none (AV.bool true) { boxes:=(w99c1 b0 ts bd b2 b3),live:=lv } os)∧((s == tx) = false→PEnd (AV.p2 5 (AV.bool false) && boxesOk 5 (w99c1 b0 ts bd b2 b3)) none (AV.bool false) { boxes:=(w99c1 b0 ts bd b2 b3),live:=lv } os))∧((n == k) = false→PEnd (AV.p2 5 (AV.bool false) && boxesOk 5 (w99c1 b0 ts bd b2 b3)) none (AV.bool false) { boxes:=(w99c1 b0 ts bd b2 b3),live:=lv } os))∧(decide ((↑(toksL ts).length:Int) > (0:Int)) = false→PEnd (AV.p2 5 (AV.bool false) && boxesOk 5 (w99c1 b0 ts bd b2 b3)) none (AV.bool false) { boxes:=(w99c1 b0 ts bd b2 b3),live:=lv } os))):=by kernel_rfl
abbrev w100ac1 (b0:List AV) (ts:List Tk) (bd:Bool) (b2:List AV) (b3:List AV):List (Option (List AV)):=[some b0,some [AV.sl 3 (toksL (keptNum { ts:=ts,bad:=bd }).snd.ts) Own.no,AV.bool (keptNum { ts:=ts,bad:=bd }).snd.bad],none,some b2,some b3]
abbrev w100ac2 (ts:List Tk) (bd:Bool):=keptTake (2:Int) [] { ts:=ts,bad:=bd }
abbrev w100ac3 (ts:List Tk) (bd:Bool):=keptTake (2:Int) (ByteArray.mk #[]).data.toList { ts:=keptUn (toksL ts),bad:=(bd) }
theorem w100a (m:Int) (ts:List Tk) (bd:Bool) (b0 b2 b3:List AV) (lv:List (Nat × TypeId)) (os:List POut):(pnW PQ idMk (GQ m) XR (tbl tR) (itbl []) fsR (ptbl [(97,s97)] J0) (g100 5 (q4 b0 (keptNum ⟨ts,bd⟩).2 b2 b3 lv) (keptTake 2 [] ⟨ts,bd⟩).1) 100 [.ptr 1 0] (q4 b0 ⟨ts,bd⟩ b2 b3 lv) os) =
((TokL (toksL ts)∧b0.all (AV.p1 5) = true∧b2.all (AV.p1 5) = true∧b3.all (AV.p1 5) = true)∧(True→(∃ (y:Nat),ValsAre [AV.ptr 1 0,AV.str (w100ac3 ts bd).fst,I6 0,I6 0] [AV.ptr 1 0,AV.str (w100ac2 ts bd).fst,I6 (digV (List.take y (w100ac2 ts bd).fst)),I6 (↑y:Int)]∧StIs { boxes:=[some b0,some [AV.sl 3 (toksL (w100ac3 ts bd).snd.ts) Own.no,AV.bool (w100ac3 ts bd).snd.bad],none,some b2,some b3],live:=lv } { boxes:=(w100ac1 b0 ts bd b2 b3),live:=lv }∧y≤(w100ac2 ts bd).fst.length∧True)∧∀ (x:Nat),x≤(w100ac2 ts bd).fst.length→(decide ((↑x:Int) < (↑(w100ac2 ts bd).fst.length:Int)) = true→(0:Int)≤(↑x:Int)∧∃ (c:UInt8),(w100ac2 ts bd).fst[(↑x:Int).toNat]? = some c∧∃ (y:Nat),ValsAre [AV.ptr 1 0,AV.str (w100ac2 ts bd).fst,I6 (IntKind.i64.wrap (IntKind.i64.wrap (IntKind.i64.wrap ((10:Int) * digV (List.take x (w100ac2 ts bd).fst)) + IntKind.i64.wrap (↑c.toNat:Int)) - (48:Int))),I6 (IntKind.i64.wrap ((↑x:Int) + (1:Int)))] [AV.ptr 1 0,AV.str (w100ac2 ts bd).fst,I6 (digV (List.take y (w100ac2 ts bd).fst)),I6 (↑y:Int)]∧StIs { boxes:=(w100ac1 b0 ts bd b2 b3),live:=lv } { boxes:=(w100ac1 b0 ts bd b2 b3),live:=lv }∧y≤(w100ac2 ts bd).fst.length∧(w100ac2 ts bd).fst.length - y < (w100ac2 ts bd).fst.length - x)∧(decide ((↑x:Int) < (↑(w100ac2 ts bd).fst.length:Int)) = false→PEnd (AV.p2 5 (I6 (digV (List.take x (w100ac2 ts bd).fst))) && boxesOk 5 (w100ac1 b0 ts bd b2 b3)) none (I6 (digV (List.take x (w100ac2 ts bd).fst))) { boxes:=(w100ac1 b0 ts bd b2 b3),live:=lv } os))∧True):=by kernel_rfl
abbrev w100bc1 (b0:List AV) (ts:List Tk) (bd:Bool) (b2:List AV) (b3:List AV) (b4:List AV) (b5:List AV):List (Option (List AV)):=[some b0,some [AV.sl 3 (toksL (keptNum { ts:=ts,bad:=bd }).snd.ts) Own.no,AV.bool (keptNum { ts:=ts,bad:=bd }).snd.bad],none,some b2,some b3,some b4,some b5]
abbrev w100bc2 (ts:List Tk) (bd:Bool):=keptTake (2:Int) [] { ts:=ts,bad:=bd }
abbrev w100bc3 (ts:List Tk) (bd:Bool):=keptTake (2:Int) (ByteArray.mk #[]).data.toList { ts:=keptUn (toksL ts),bad:=(bd) }
theorem w100b (m:Int) (ts:List Tk) (bd:Bool) (b0 b2 b3 b4 b5:List AV) (lv:List (Nat × TypeId)) (os:List POut):(pnW PQ idMk (GQ m) XR (tbl tR) (itbl []) fsR (ptbl [(97,s97)] J0) (g100 7 (q6 b0 (keptNum ⟨ts,bd⟩).2 b2 b3 b4 (some b5) lv) (keptTake 2 [] ⟨ts,bd⟩).1) 100 [.ptr 1 0] (q6 b0 ⟨ts,bd⟩ b2 b3 b4 (some b5) lv) os) =
((TokL (toksL ts)∧b0.all (AV.p1 7) = true∧b2.all (AV.p1 7) = true∧b3.all (AV.p1 7) = true∧b4.all (AV.p1 7) = true∧b5.all (AV.p1 7) = true)∧(True→(∃ (y:Nat),ValsAre [AV.ptr 1 0,AV.str (w100bc3 ts bd).fst,I6 0,I6 0] [AV.ptr 1 0,AV.str (w100bc2 ts bd).fst,I6 (digV (List.take y (w100bc2 ts bd).fst)),I6 (↑y:Int)]∧StIs { boxes:=[some b0,some [AV.sl 3 (toksL (w100bc3 ts bd).snd.ts) Own.no,AV.bool (w100bc3 ts bd).snd.bad],none,some b2,some b3,some b4,some b5],live:=lv } { boxes:=(w100bc1 b0 ts bd b2 b3 b4 b5),live:=lv }∧y≤(w100bc2 ts bd).fst.length∧True)∧∀ (x:Nat),x≤(w100bc2 ts bd).fst.length→(decide ((↑x:Int) < (↑(w100bc2 ts bd).fst.length:Int)) = true→(0:Int)≤(↑x:Int)∧∃ (c:UInt8),(w100bc2 ts bd).fst[(↑x:Int).toNat]? = some c∧∃ (y:Nat),ValsAre [AV.ptr 1 0,AV.str (w100bc2 ts bd).fst,I6 (IntKind.i64.wrap (IntKind.i64.wrap (IntKind.i64.wrap ((10:Int) * digV (List.take x (w100bc2 ts bd).fst)) + IntKind.i64.wrap (↑c.toNat:Int)) - (48:Int))),I6 (IntKind.i64.wrap ((↑x:Int) + (1:Int)))] [AV.ptr 1 0,AV.str (w100bc2 ts bd).fst,I6 (digV (List.take y (w100bc2 ts bd).fst)),I6 (↑y:Int)]∧StIs { boxes:=(w100bc1 b0 ts bd b2 b3 b4 b5),live:=lv } { boxes:=(w100bc1 b0 ts bd b2 b3 b4 b5),live:=lv }∧y≤(w100bc2 ts bd).fst.length∧(w100bc2 ts bd).fst.length - y < (w100bc2 ts bd).fst.length - x)∧(decide ((↑x:Int) < (↑(w100bc2 ts bd).fst.length:Int)) = false→PEnd (AV.p2 7 (I6 (digV (List.take x (w100bc2 ts bd).fst))) && boxesOk 7 (w100bc1 b0 ts bd b2 b3 b4 b5)) none (I6 (digV (List.take x (w100bc2 ts bd).fst))) { boxes:=(w100bc1 b0 ts bd b2 b3 b4 b5),live:=lv } os))∧True):=by kernel_rfl
abbrev w101c3 (ts:List Tk) (bd:Bool):=keptTake (4:Int) (ByteArray.mk #[]).data.toList { ts:=keptUn (toksL ts),bad:=(bd) }
abbrev w101c1 (ts:List Tk) (bd:Bool):RS:={ ts:=keptUn (toksL (w101c3 ts bd).snd.ts),bad:=(w101c3 ts bd).snd.bad }
abbrev w101c2 (ts:List Tk) (bd:Bool):RS:={ ts:=keptUn (toksL (keptNum (w101c1 ts bd)).snd.ts),bad:=(keptNum (w101c1 ts bd)).snd.bad }
theorem w101 (m:Int) (ts:List Tk) (bd:Bool) (b0 b2 b3:List AV) (lv:List (Nat × TypeId)) (os:List POut):(pnW PQ idMk (GQ m) XR (tbl tR) (itbl []) fsR (ptbl [(97,s97),(100,s100)] J0) g101 101 [.ptr 1 0] (q4 b0 ⟨ts,bd⟩ b2 b3 lv) os) =
((TokL (toksL ts)∧b0.all (AV.p1 7) = true∧b2.all (AV.p1 7) = true∧b3.all (AV.p1 7) = true∧true = true)∧(True→(TokL (toksL (w101c3 ts bd).snd.ts)∧b0.all (AV.p1 7) = true∧b2.all (AV.p1 7) = true∧b3.all (AV.p1 7) = true∧true = true∧[AV.str (w101c3 ts bd).fst,I6 0,I6 0].all (AV.p1 7) = true∧(keptTake (2:Int) [] (w101c1 ts bd)).fst.length≤(9223372036854775807:Nat))∧(True→(TokL (toksL (keptNum (w101c1 ts bd)).snd.ts)∧b0.all (AV.p1 7) = true∧b2.all (AV.p1 7) = true∧b3.all (AV.p1 7) = true∧true = true∧[AV.str (w101c3 ts bd).fst,I6 (keptNum (w101c1 ts bd)).fst,I6 0].all (AV.p1 7) = true∧(keptTake (2:Int) [] (w101c2 ts bd)).fst.length≤(9223372036854775807:Nat))∧(True→PEnd (AV.p2 5 (AV.agg [AV.str (w101c3 ts bd).fst,I6 (keptNum (w101c1 ts bd)).fst,I6 (keptNum (w101c2 ts bd)).fst]) && boxesOk 5 [some b0,some [AV.sl 3 (toksL (keptNum (w101c2 ts bd)).snd.ts) Own.no,AV.bool (keptNum (w101c2 ts bd)).snd.bad],none,some b2,some b3]) none (AV.agg [AV.str (w101c3 ts bd).fst,I6 (keptNum (w101c1 ts bd)).fst,I6 (keptNum (w101c2 ts bd)).fst]) { boxes:=[some b0,some [AV.sl 3 (toksL (keptNum (w101c2 ts bd)).snd.ts) Own.no,AV.bool (keptNum (w101c2 ts bd)).snd.bad],none,some b2,some b3],live:=lv } os)∧True)∧True)∧True):=by kernel_rfl
abbrev w12c1 (ts:List Tk):=keptReq { ts:=keptUn (toksL ts),bad:=false }
abbrev w12c2:List AV:=[AV.str [],AV.sl 0 [] Own.nil,AV.sl 0 [] Own.nil,AV.int IntKind.i64 0,AV.int IntKind.i64 0]
abbrev w12c3 (ts:List Tk):Prop:=(0:Int)≤(0:Int)∧(0:Int) < (↑(toksL (w12c1 ts).snd.ts).length:Int)
abbrev w12c4 (n:Int):=AV.tup [AV.agg w12c2,AV.int IntKind.i64 n,AV.int IntKind.i64 90]
theorem w12 (m:Int) (s:Spec) (bs:List UInt8) (ts:List Tk) (pb:List Pb) (e:Int) (r:AV):(tlaxW PQ idMk (GQ m) (X12 ts pb e) (tbl [(47,s),(33,s33)]) (itbl []) fsR (ptbl [(48,s48)] J0) g12 12 [bytesA bs] (r,[])) =
(CallIs (tbl [(47,s),(33,s33)] 47 [AV.sl 1 (bytesL bs) Own.no]) (AV.tup [AV.sl 3 (toksL ts) Own.no,AV.sl 2 (pbsL pb) Own.no,I6 e]) []∧((e != (0:Int)) = true→RetLax (AV.tup [AV.agg w12c2,I6 0,I6 e]) (r,[]))∧((e != (0:Int)) = false→(decide ((↑(pbsL pb).length:Int) > (0:Int)) = true→((0:Int)≤(0:Int)∧(0:Int) < (↑(pbsL pb).length:Int))∧∃ (n:Int),takeAt PQ 3 (pbsL pb) 0 0 = some (I6 n)∧((0:Int)≤(0:Int)∧(0:Int) < (↑(pbsL pb).length:Int))∧∃ (n_1:Int),takeAt PQ 28 (pbsL pb) 0 1 = some (I6 n_1)∧RetLax (AV.tup [AV.agg w12c2,I6 n,I6 n_1]) (r,[]))∧(decide ((↑(pbsL pb).length:Int) > (0:Int)) = false→(TokL (toksL ts)∧(keptUn (toksL ts)).length≤(900000:Nat)∧(∀ (t:Tk),List.Mem t (keptUn (toksL ts))→t.s.length≤(9223372036854775807:Nat))∧true = true∧true = true∧true = true)∧(True→((w12c1 ts).snd.bad = true→(w12c3 ts)∧∃ (n:Int),takeAt PQ 3 (toksL (w12c1 ts).snd.ts) 0 2 = some (I6 n)∧RetLax (w12c4 n) (r,[]))∧((w12c1 ts).snd.bad = false→(((↑(toksL (w12c1 ts).snd.ts).length:Int) == (0:Int)) = true→(w12c3 ts)∧∃ (n:Int),takeAt PQ 3 (toksL (w12c1 ts).snd.ts) 0 2 = some (I6 n)∧RetLax (w12c4 n) (r,[]))∧(((↑(toksL (w12c1 ts).snd.ts).length:Int) == (0:Int)) = false→(w12c3 ts)∧∃ (n:Int),takeAt PQ 3 (toksL (w12c1 ts).snd.ts) 0 0 = some (I6 n)∧((n != (6:Int)) = true→(w12c3 ts)∧∃ (n:Int),takeAt PQ 3 (toksL (w12c1 ts).snd.ts) 0 2 = some (I6 n)∧RetLax (w12c4 n) (r,[]))∧((n != (6:Int)) = false→∃ (b:Bool),CallIs (tbl [(47,s),(33,s33)] 33 [AV.agg [AV.str (w12c1 ts).fst.entity,AV.sl 1 (strsL (w12c1 ts).fst.feats) Own.no,AV.sl 3 (lbsL (w12c1 ts).fst.labels) Own.no,I6 (w12c1 ts).fst.seed,I6 (w12c1 ts).fst.permille]]) (AV.bool b) []∧(b = true→RetLax (AV.tup [AV.agg [AV.str (w12c1 ts).fst.entity,AV.sl 1 (strsL (w12c1 ts).fst.feats) (Own.tok 0),AV.sl 3 (lbsL (w12c1 ts).fst.labels) (Own.tok 1),I6 (w12c1 ts).fst.seed,I6 (w12c1 ts).fst.permille],I6 0,I6 0]) (r,[]))∧(b = false→RetLax (AV.tup [AV.agg w12c2,I6 0,I6 240]) (r,[]))))))∧True))):=by kernel_rfl
theorem one_end {ok:Bool} {r r':AV} {S S':St} (hok:ok = true) (hr:r' = r) (hS:S' = S):PEnd ok none r S [⟨True,none,r',S'⟩]:=⟨hok,_,List.mem_cons_self,trivial,rfl,hr,hS⟩
theorem bOkA {b0 b2 b3:List AV} {es:List AV} {bd:Bool} (h0:pOk 5 b0) (h2:pOk 5 b2) (h3:pOk 5 b3):boxesOk 5 [some b0,some [.sl 3 es .no,.bool bd],none,some b2,some b3] = true:=by
 unfold pOk at h0 h2 h3
 simp only [boxesOk,h0,h2,h3,Bool.or_true,Bool.true_and]
 rfl
theorem bOkB {b0 b2 b3 b4:List AV} {b5:Option (List AV)} {es:List AV} {bd:Bool} (h0:pOk 7 b0) (h2:pOk 7 b2) (h3:pOk 7 b3) (h4:pOk 7 b4) (h5:oOk 7 b5):boxesOk 7 [some b0,some [.sl 3 es .no,.bool bd],none,some b2,some b3,some b4,b5] = true:=by
 unfold pOk at h0 h2 h3 h4
 cases b5 with
 | none=>simp only [boxesOk,h0,h2,h3,h4,Bool.or_true,Bool.true_and]; rfl
 | some c =>
  have h5:c.all (AV.p1 7) = true:=h5
  simp only [boxesOk,h0,h2,h3,h4,h5,Bool.or_true,Bool.true_and]; rfl
theorem tk_bad {k:Int} {tx:List UInt8} {t:Tk} {l:List Tk} (h:t.k ≠ k∨(tx ≠ []∧t.s ≠ tx)):keptTake k tx ⟨t :: l,false⟩ = ([],⟨t :: l,true⟩):=by
 unfold keptTake
 simp only [Bool.false_eq_true,if_false]
 rw [if_neg]
 rintro ⟨h1,h2⟩
 rcases h with h | ⟨h3,h4⟩
 ·exact h h1
 ·exact h2.elim h3 h4
theorem tk_ok {k:Int} {tx:List UInt8} {t:Tk} {l:List Tk} (h:t.k = k∧(tx = []∨t.s = tx)):keptTake k tx ⟨t :: l,false⟩ = (t.s,⟨l,false⟩):=by
 unfold keptTake
 simp only [Bool.false_eq_true,if_false]
 rw [if_pos h]
theorem tk_nil {k:Int} {tx:List UInt8}:keptTake k tx ⟨[],false⟩ = ([],⟨[],true⟩):=rfl
theorem p97a (m:Int) (k:Int) (tx:List UInt8) (ts:List Tk) (bd:Bool) (b0 b2 b3:List AV) (lv:List (Nat × TypeId)) (h0:pOk 5 b0) (h2:pOk 5 b2) (h3:pOk 5 b3):PnOk PQ (GQ m) XR (tbl tR) (itbl []) fsR J0 g97 97 [.ptr 1 0,.int .i64 k,.str tx] (q4 b0 ⟨ts,bd⟩ b2 b3 lv)
  [⟨True,none,.str (keptTake k tx ⟨ts,bd⟩).1,q4 b0 (keptTake k tx ⟨ts,bd⟩).2 b2 b3 lv⟩]:=by
 constructor
 rw [w97a]; unfold w97ac3 w97ac2 w97ac1
 have hb:∀ (es:List AV) (b:Bool),boxesOk 5 [some b0,some [.sl 3 es .no,.bool b],none,some b2,some b3] = true:=fun es b=>bOkA h0 h2 h3
 cases bd with
 | true=>exact ⟨fun _=>one_end (by rw [hb]; rfl) (by rw [bad_take rfl]) (by rw [bad_take rfl]; rfl),fun h=>(nomatch h)⟩
 | false =>
  refine ⟨fun h=>(nomatch h),fun _=>?_⟩
  cases ts with
  | nil=>exact ⟨fun _=>one_end (by rw [hb]; rfl) (by rw [tk_nil]) (by rw [tk_nil]; rfl),fun h=>absurd h (by decide)⟩
  | cons t l =>
   have e0:=len_tok t l
   have e1:=len_tok1 t l
   refine ⟨fun h=>absurd (eq_of_beq h) (by omega),fun _=>⟨⟨Int.le_refl _,e0⟩,_,take_k,fun c=>?_,fun c=>⟨fun d=>⟨⟨Int.le_refl _,e0⟩,_,take_s,fun e=>?_,fun e=>⟨⟨Int.le_refl _,e0⟩,_,take_s,by omega,⟨e1,Nat.le_refl _⟩,.inl rfl,?_⟩⟩,fun d=>⟨⟨Int.le_refl _,e0⟩,_,take_s,by omega,⟨e1,Nat.le_refl _⟩,.inl rfl,?_⟩⟩⟩⟩
   ·have hk:=tk_bad (tx:=tx) (l:=l) (.inl (by simpa using c):t.k ≠ k∨_)
    exact one_end (by rw [hb]; rfl) (by rw [hk]) (by rw [hk]; rfl)
   ·have hk:=tk_bad (k:=k) (l:=l) (.inr ⟨by simpa using d,by simpa using e⟩:t.k ≠ k∨(tx ≠ []∧t.s ≠ tx))
    exact one_end (by rw [hb]; rfl) (by rw [hk]) (by rw [hk]; rfl)
   ·have hk:=tk_ok (l:=l) (⟨by simpa using c,.inr (by simpa using e)⟩:t.k = k∧(tx = []∨t.s = tx))
    exact one_end (by rw [hb]; rfl) (by rw [hk]) (by rw [hk,drop_tok]; rfl)
   ·have hk:=tk_ok (l:=l) (⟨by simpa using c,.inl (by simpa using d)⟩:t.k = k∧(tx = []∨t.s = tx))
    exact one_end (by rw [hb]; rfl) (by rw [hk]) (by rw [hk,drop_tok]; rfl)
theorem p97b (m:Int) (k:Int) (tx:List UInt8) (ts:List Tk) (bd:Bool) (b0 b2 b3 b4:List AV) (lv:List (Nat × TypeId)) (h0:pOk 7 b0) (h2:pOk 7 b2) (h3:pOk 7 b3) (h4:pOk 7 b4):PnOk PQ (GQ m) XR (tbl tR) (itbl []) fsR J0 g97 97 [.ptr 1 0,.int .i64 k,.str tx] (q6 b0 ⟨ts,bd⟩ b2 b3 b4 none lv)
  [⟨True,none,.str (keptTake k tx ⟨ts,bd⟩).1,q6 b0 (keptTake k tx ⟨ts,bd⟩).2 b2 b3 b4 none lv⟩]:=by
 constructor
 rw [w97b]; unfold w97bc3 w97bc2 w97bc1
 have hb:∀ (es:List AV) (b:Bool),boxesOk 7 [some b0,some [.sl 3 es .no,.bool b],none,some b2,some b3,some b4,none] = true:=fun es b=>bOkB h0 h2 h3 h4 trivial
 cases bd with
 | true=>exact ⟨fun _=>one_end (by rw [hb]; rfl) (by rw [bad_take rfl]) (by rw [bad_take rfl]; rfl),fun h=>(nomatch h)⟩
 | false =>
  refine ⟨fun h=>(nomatch h),fun _=>?_⟩
  cases ts with
  | nil=>exact ⟨fun _=>one_end (by rw [hb]; rfl) (by rw [tk_nil]) (by rw [tk_nil]; rfl),fun h=>absurd h (by decide)⟩
  | cons t l =>
   have e0:=len_tok t l
   have e1:=len_tok1 t l
   refine ⟨fun h=>absurd (eq_of_beq h) (by omega),fun _=>⟨⟨Int.le_refl _,e0⟩,_,take_k,fun c=>?_,fun c=>⟨fun d=>⟨⟨Int.le_refl _,e0⟩,_,take_s,fun e=>?_,fun e=>⟨⟨Int.le_refl _,e0⟩,_,take_s,by omega,⟨e1,Nat.le_refl _⟩,.inl rfl,?_⟩⟩,fun d=>⟨⟨Int.le_refl _,e0⟩,_,take_s,by omega,⟨e1,Nat.le_refl _⟩,.inl rfl,?_⟩⟩⟩⟩
   ·have hk:=tk_bad (tx:=tx) (l:=l) (.inl (by simpa using c):t.k ≠ k∨_)
    exact one_end (by rw [hb]; rfl) (by rw [hk]) (by rw [hk]; rfl)
   ·have hk:=tk_bad (k:=k) (l:=l) (.inr ⟨by simpa using d,by simpa using e⟩:t.k ≠ k∨(tx ≠ []∧t.s ≠ tx))
    exact one_end (by rw [hb]; rfl) (by rw [hk]) (by rw [hk]; rfl)
   ·have hk:=tk_ok (l:=l) (⟨by simpa using c,.inr (by simpa using e)⟩:t.k = k∧(tx = []∨t.s = tx))
    exact one_end (by rw [hb]; rfl) (by rw [hk]) (by rw [hk,drop_tok]; rfl)
   ·have hk:=tk_ok (l:=l) (⟨by simpa using c,.inl (by simpa using d)⟩:t.k = k∧(tx = []∨t.s = tx))
    exact one_end (by rw [hb]; rfl) (by rw [hk]) (by rw [hk,drop_tok]; rfl)
theorem p97c (m:Int) (k:Int) (tx:List UInt8) (ts:List Tk) (bd:Bool) (b0 b2 b3 b4 b5:List AV) (lv:List (Nat × TypeId)) (h0:pOk 7 b0) (h2:pOk 7 b2) (h3:pOk 7 b3) (h4:pOk 7 b4) (h5:pOk 7 b5):PnOk PQ (GQ m) XR (tbl tR) (itbl []) fsR J0 g97 97 [.ptr 1 0,.int .i64 k,.str tx] (q6 b0 ⟨ts,bd⟩ b2 b3 b4 (some b5) lv)
  [⟨True,none,.str (keptTake k tx ⟨ts,bd⟩).1,q6 b0 (keptTake k tx ⟨ts,bd⟩).2 b2 b3 b4 (some b5) lv⟩]:=by
 constructor
 rw [w97c]; unfold w97cc3 w97cc2 w97cc1
 have hb:∀ (es:List AV) (b:Bool),boxesOk 7 [some b0,some [.sl 3 es .no,.bool b],none,some b2,some b3,some b4,some b5] = true:=fun es b=>bOkB h0 h2 h3 h4 h5
 cases bd with
 | true=>exact ⟨fun _=>one_end (by rw [hb]; rfl) (by rw [bad_take rfl]) (by rw [bad_take rfl]; rfl),fun h=>(nomatch h)⟩
 | false =>
  refine ⟨fun h=>(nomatch h),fun _=>?_⟩
  cases ts with
  | nil=>exact ⟨fun _=>one_end (by rw [hb]; rfl) (by rw [tk_nil]) (by rw [tk_nil]; rfl),fun h=>absurd h (by decide)⟩
  | cons t l =>
   have e0:=len_tok t l
   have e1:=len_tok1 t l
   refine ⟨fun h=>absurd (eq_of_beq h) (by omega),fun _=>⟨⟨Int.le_refl _,e0⟩,_,take_k,fun c=>?_,fun c=>⟨fun d=>⟨⟨Int.le_refl _,e0⟩,_,take_s,fun e=>?_,fun e=>⟨⟨Int.le_refl _,e0⟩,_,take_s,by omega,⟨e1,Nat.le_refl _⟩,.inl rfl,?_⟩⟩,fun d=>⟨⟨Int.le_refl _,e0⟩,_,take_s,by omega,⟨e1,Nat.le_refl _⟩,.inl rfl,?_⟩⟩⟩⟩
   ·have hk:=tk_bad (tx:=tx) (l:=l) (.inl (by simpa using c):t.k ≠ k∨_)
    exact one_end (by rw [hb]; rfl) (by rw [hk]) (by rw [hk]; rfl)
   ·have hk:=tk_bad (k:=k) (l:=l) (.inr ⟨by simpa using d,by simpa using e⟩:t.k ≠ k∨(tx ≠ []∧t.s ≠ tx))
    exact one_end (by rw [hb]; rfl) (by rw [hk]) (by rw [hk]; rfl)
   ·have hk:=tk_ok (l:=l) (⟨by simpa using c,.inr (by simpa using e)⟩:t.k = k∧(tx = []∨t.s = tx))
    exact one_end (by rw [hb]; rfl) (by rw [hk]) (by rw [hk,drop_tok]; rfl)
   ·have hk:=tk_ok (l:=l) (⟨by simpa using c,.inl (by simpa using d)⟩:t.k = k∧(tx = []∨t.s = tx))
    exact one_end (by rw [hb]; rfl) (by rw [hk]) (by rw [hk,drop_tok]; rfl)
theorem tR_ok (m:Int):CalleeOk PQ (GQ m) (tbl tR):=tbl_cons (o77u m) tbl_nil
theorem o97 (m:Int):PSpecOk PQ (GQ m) 97 s97:=pspec_of mixedQ fun args S p os h hp=>by
 unfold s97 at h
 split at h
 case h_4=>cases h
 case h_1 =>
  injection h with h
  injection h with e1 e2
  subst e1; subst e2
  obtain ⟨⟨ts,rfl⟩,h0,h2,h3⟩:=hp
  simp only [keptUn_ok]
  exact ⟨_,_,_,_,_,_,tR_ok m,itbl_nil,J0_ok,p97a m _ _ ts _ _ _ _ _ h0 h2 h3⟩
 case h_2 =>
  injection h with h
  injection h with e1 e2
  subst e1; subst e2
  obtain ⟨⟨ts,rfl⟩,h0,h2,h3,h4⟩:=hp
  simp only [keptUn_ok]
  exact ⟨_,_,_,_,_,_,tR_ok m,itbl_nil,J0_ok,p97b m _ _ ts _ _ _ _ _ _ h0 h2 h3 h4⟩
 case h_3 =>
  injection h with h
  injection h with e1 e2
  subst e1; subst e2
  obtain ⟨⟨ts,rfl⟩,h0,h2,h3,h4,h5⟩:=hp
  simp only [keptUn_ok]
  exact ⟨_,_,_,_,_,_,tR_ok m,itbl_nil,J0_ok,p97c m _ _ ts _ _ _ _ _ _ _ h0 h2 h3 h4 h5⟩
theorem p98 (m:Int) (ts:List Tk) (bd:Bool) (b0 b2 b3:List AV) (lv:List (Nat × TypeId)) (h0:pOk 5 b0) (h2:pOk 5 b2) (h3:pOk 5 b3):PnOk PQ (GQ m) XR (tbl tR) (itbl []) fsR (ptbl [(97,s97)] J0) g98 98 [.ptr 1 0] (q4 b0 ⟨ts,bd⟩ b2 b3 lv)
  [⟨True,none,.str (keptName ⟨ts,bd⟩).1,q4 b0 (keptName ⟨ts,bd⟩).2 b2 b3 lv⟩]:=by
 constructor
 rw [w98]; unfold w98c4 w98c3 w98c1 w98c2
 have hb:∀ (es:List AV) (b:Bool),boxesOk 5 [some b0,some [.sl 3 es .no,.bool b],none,some b2,some b3] = true:=fun es b=>bOkA h0 h2 h3
 have hq:TokL (toksL ts)∧b0.all (AV.p1 5) = true∧b2.all (AV.p1 5) = true∧b3.all (AV.p1 5) = true:=⟨⟨ts,rfl⟩,h0,h2,h3⟩
 simp only [keptUn_ok]
 cases bd with
 | true=>exact ⟨fun _=>⟨hq,fun _=>one_end (by rw [hb]; rfl) rfl rfl,trivial⟩,fun h=>(nomatch h)⟩
 | false =>
  refine ⟨fun h=>(nomatch h),fun _=>?_⟩
  cases ts with
  | nil=>exact ⟨fun h=>absurd h (by decide),fun _=>⟨hq,fun _=>one_end (by rw [hb]; rfl) rfl rfl,trivial⟩⟩
  | cons t l =>
   have e0:=len_tok t l
   refine ⟨fun _=>⟨⟨Int.le_refl _,e0⟩,_,take_s,_,⟨rfl⟩,fun c=>⟨hq,fun _=>?_,trivial⟩,fun c=>⟨hq,fun _=>?_,trivial⟩⟩,fun h=>absurd (of_decide_eq_false h) (by omega)⟩
   ·have hk:keptName ⟨t :: l,false⟩ = keptTake 1 [] ⟨t :: l,false⟩:=by unfold keptName keptPre; simp only [c,if_true,Bool.false_eq_true,if_false]
    exact one_end (by rw [hb]; rfl) (by rw [hk]) (by rw [hk]; rfl)
   ·have hk:keptName ⟨t :: l,false⟩ = ([],⟨t :: l,true⟩):=by unfold keptName keptPre; simp only [c,Bool.false_eq_true,if_false]; rfl
    have hk2:keptTake 1 [] ⟨t :: l,true⟩ = ([],⟨t :: l,true⟩):=rfl
    exact one_end (by rw [hb]; rfl) (by rw [hk]) (by rw [hk,hk2]; rfl)
theorem o98 (m:Int):PSpecOk PQ (GQ m) 98 s98:=pspec_of mixedQ fun args S p os h hp=>by
 unfold s98 at h
 split at h
 case h_2=>cases h
 injection h with h
 injection h with e1 e2
 subst e1; subst e2
 obtain ⟨⟨ts,rfl⟩,h0,h2,h3⟩:=hp
 simp only [keptUn_ok]
 exact ⟨_,_,_,_,_,_,tR_ok m,itbl_nil,ptbl_cons (o97 m) (ptbl_nil J0_ok),p98 m ts _ _ _ _ _ h0 h2 h3⟩
theorem see_end {ok:Bool} {b c:Bool} {S:St} (hok:ok = true) (h:c = b):PEnd ok none (.bool b) S [⟨c = true,none,.bool true,S⟩,⟨c = false,none,.bool false,S⟩]:=by
 subst h
 cases c with
 | true=>exact ⟨hok,_,List.mem_cons_self,rfl,rfl,rfl,rfl⟩
 | false=>exact ⟨hok,_,List.mem_cons_of_mem _ List.mem_cons_self,rfl,rfl,rfl,rfl⟩
theorem p99 (m:Int) (k:Int) (tx:List UInt8) (ts:List Tk) (bd:Bool) (b0 b2 b3:List AV) (lv:List (Nat × TypeId)) (h0:pOk 5 b0) (h2:pOk 5 b2) (h3:pOk 5 b3):PnOk PQ (GQ m) XR (tbl tR) (itbl []) fsR J0 g97 99 [.ptr 1 0,.int .i64 k,.str tx] (q4 b0 ⟨ts,bd⟩ b2 b3 lv)
  [⟨keptSee k tx ⟨ts,bd⟩ = true,none,.bool true,q4 b0 ⟨ts,bd⟩ b2 b3 lv⟩,⟨keptSee k tx ⟨ts,bd⟩ = false,none,.bool false,q4 b0 ⟨ts,bd⟩ b2 b3 lv⟩]:=by
 constructor
 rw [w99]; unfold w99c1
 have hb:∀ (es:List AV) (b:Bool),boxesOk 5 [some b0,some [.sl 3 es .no,.bool b],none,some b2,some b3] = true:=fun es b=>bOkA h0 h2 h3
 cases bd with
 | true=>exact ⟨fun _=>see_end (by rw [hb]; rfl) rfl,fun h=>(nomatch h)⟩
 | false =>
  refine ⟨fun h=>(nomatch h),fun _=>?_⟩
  cases ts with
  | nil=>exact ⟨fun h=>absurd h (by decide),fun _=>see_end (by rw [hb]; rfl) rfl⟩
  | cons t l =>
   have e0:=len_tok t l
   have hs:keptSee k tx ⟨t :: l,false⟩ = (decide (t.k = k) && (t.s == tx)):=rfl
   refine ⟨fun _=>⟨⟨Int.le_refl _,e0⟩,_,take_k,fun c=>⟨⟨Int.le_refl _,e0⟩,_,take_s,fun d=>see_end (by rw [hb]; rfl) ?_,fun d=>see_end (by rw [hb]; rfl) ?_⟩,fun c=>see_end (by rw [hb]; rfl) ?_⟩,fun h=>absurd (of_decide_eq_false h) (by omega)⟩
   ·rw [hs,d,eq_of_beq c]; simp
   ·rw [hs,d]; simp
   ·have:t.k ≠ k:=by simpa using c
    rw [hs,decide_eq_false this]; rfl
theorem o99 (m:Int):PSpecOk PQ (GQ m) 99 s99:=pspec_of mixedQ fun args S p os h hp=>by
 unfold s99 at h
 split at h
 case h_2=>cases h
 injection h with h
 injection h with e1 e2
 subst e1; subst e2
 obtain ⟨⟨ts,rfl⟩,h0,h2,h3⟩:=hp
 simp only [keptUn_ok]
 exact ⟨_,_,_,_,_,_,tR_ok m,itbl_nil,J0_ok,p99 m _ _ ts _ _ _ _ _ h0 h2 h3⟩
theorem digV_step {s:List UInt8} {i:Nat} (h:i < s.length):digV (s.take (i + 1)) = IntKind.wrap .i64 (IntKind.wrap .i64 (IntKind.wrap .i64 (10 * digV (s.take i)) + s[i].toNat) - 48):=by
 rw [List.take_succ_eq_append_getElem h]
 unfold digV
 rw [List.foldl_append]
 rfl
theorem u8_lt (c:UInt8):IntKind.wrap .i64 (c.toNat:Int) = c.toNat:=by
 have:=c.toNat_lt
 simp only [IntKind.wrap,IntKind.bits,IntKind.signed]
 simp
 omega
theorem p100a (m:Int) (ts:List Tk) (bd:Bool) (b0 b2 b3:List AV) (lv:List (Nat × TypeId)) (h0:pOk 5 b0) (h2:pOk 5 b2) (h3:pOk 5 b3) (hl:(keptTake 2 [] ⟨ts,bd⟩).1.length≤maxI):PnOk PQ (GQ m) XR (tbl tR) (itbl []) fsR (ptbl [(97,s97)] J0) (g100 5 (q4 b0 (keptNum ⟨ts,bd⟩).2 b2 b3 lv) (keptTake 2 [] ⟨ts,bd⟩).1) 100 [.ptr 1 0] (q4 b0 ⟨ts,bd⟩ b2 b3 lv)
  [⟨True,none,.int .i64 (keptNum ⟨ts,bd⟩).1,q4 b0 (keptNum ⟨ts,bd⟩).2 b2 b3 lv⟩]:=by
 constructor
 rw [w100a]; unfold w100ac3 w100ac2 w100ac1 I6
 have hb:∀ (es:List AV) (b:Bool),boxesOk 5 [some b0,some [.sl 3 es .no,.bool b],none,some b2,some b3] = true:=fun es b=>bOkA h0 h2 h3
 simp only [keptUn_ok]
 have hd:(keptNum ⟨ts,bd⟩).1 = digV (keptTake 2 [] ⟨ts,bd⟩).1:=rfl
 have big:maxI = 9223372036854775807:=rfl
 refine ⟨⟨⟨ts,rfl⟩,h0,h2,h3⟩,fun _=>⟨⟨0,⟨rfl⟩,⟨rfl⟩,Nat.zero_le _,trivial⟩,fun i hi=>⟨fun lt=>?_,fun ge=>?_⟩⟩,trivial⟩
 ·have lt:=of_decide_eq_true lt
  have hil:i < (keptTake 2 [] ⟨ts,bd⟩).1.length:=by omega
  refine ⟨by omega,(keptTake 2 [] ⟨ts,bd⟩).1[i],by rw [Int.toNat_natCast,List.getElem?_eq_getElem hil],i + 1,⟨?_⟩,⟨rfl⟩,hil,by omega⟩
  rw [digV_step hil,u8_lt,wrapI (i:=i) (by omega)]
 ·have ge:=of_decide_eq_false ge
  have:i = (keptTake 2 [] ⟨ts,bd⟩).1.length:=by omega
  exact one_end (by rw [hb]; rfl) (by rw [hd,this,List.take_length]) rfl
theorem p100b (m:Int) (ts:List Tk) (bd:Bool) (b0 b2 b3 b4 b5:List AV) (lv:List (Nat × TypeId)) (h0:pOk 7 b0) (h2:pOk 7 b2) (h3:pOk 7 b3) (h4:pOk 7 b4) (h5:pOk 7 b5) (hl:(keptTake 2 [] ⟨ts,bd⟩).1.length≤maxI):PnOk PQ (GQ m) XR (tbl tR) (itbl []) fsR (ptbl [(97,s97)] J0) (g100 7 (q6 b0 (keptNum ⟨ts,bd⟩).2 b2 b3 b4 (some b5) lv) (keptTake 2 [] ⟨ts,bd⟩).1) 100 [.ptr 1 0] (q6 b0 ⟨ts,bd⟩ b2 b3 b4 (some b5) lv)
  [⟨True,none,.int .i64 (keptNum ⟨ts,bd⟩).1,q6 b0 (keptNum ⟨ts,bd⟩).2 b2 b3 b4 (some b5) lv⟩]:=by
 constructor
 rw [w100b]; unfold w100bc3 w100bc2 w100bc1 I6
 have hb:∀ (es:List AV) (b:Bool),boxesOk 7 [some b0,some [.sl 3 es .no,.bool b],none,some b2,some b3,some b4,some b5] = true:=fun es b=>bOkB h0 h2 h3 h4 h5
 simp only [keptUn_ok]
 have hd:(keptNum ⟨ts,bd⟩).1 = digV (keptTake 2 [] ⟨ts,bd⟩).1:=rfl
 have big:maxI = 9223372036854775807:=rfl
 refine ⟨⟨⟨ts,rfl⟩,h0,h2,h3,h4,h5⟩,fun _=>⟨⟨0,⟨rfl⟩,⟨rfl⟩,Nat.zero_le _,trivial⟩,fun i hi=>⟨fun lt=>?_,fun ge=>?_⟩⟩,trivial⟩
 ·have lt:=of_decide_eq_true lt
  have hil:i < (keptTake 2 [] ⟨ts,bd⟩).1.length:=by omega
  refine ⟨by omega,(keptTake 2 [] ⟨ts,bd⟩).1[i],by rw [Int.toNat_natCast,List.getElem?_eq_getElem hil],i + 1,⟨?_⟩,⟨rfl⟩,hil,by omega⟩
  rw [digV_step hil,u8_lt,wrapI (i:=i) (by omega)]
 ·have ge:=of_decide_eq_false ge
  have:i = (keptTake 2 [] ⟨ts,bd⟩).1.length:=by omega
  exact one_end (by rw [hb]; rfl) (by rw [hd,this,List.take_length]) rfl
theorem o100 (m:Int):PSpecOk PQ (GQ m) 100 s100:=pspec_of mixedQ fun args S p os h hp=>by
 unfold s100 at h
 split at h
 case h_3=>cases h
 case h_1 =>
  injection h with h
  injection h with e1 e2
  subst e1; subst e2
  obtain ⟨⟨ts,rfl⟩,h0,h2,h3,hl⟩:=hp
  simp only [keptUn_ok] at hl ⊢
  exact ⟨_,_,_,_,_,_,tR_ok m,itbl_nil,ptbl_cons (o97 m) (ptbl_nil J0_ok),p100a m ts _ _ _ _ _ h0 h2 h3 hl⟩
 case h_2 =>
  injection h with h
  injection h with e1 e2
  subst e1; subst e2
  obtain ⟨⟨ts,rfl⟩,h0,h2,h3,h4,h5,hl⟩:=hp
  simp only [keptUn_ok] at hl ⊢
  exact ⟨_,_,_,_,_,_,tR_ok m,itbl_nil,ptbl_cons (o97 m) (ptbl_nil J0_ok),p100b m ts _ _ _ _ _ _ _ h0 h2 h3 h4 h5 hl⟩
/-! texts of tokens stay short -/
theorem short_take {k:Int} {tx:List UInt8} {x:RS} (h:shortR x):(keptTake k tx x).1.length≤maxI∧shortR (keptTake k tx x).2:=by
 have big:maxI = 9223372036854775807:=rfl
 obtain ⟨ts,bd⟩:=x
 cases bd with
 | true=>rw [bad_take rfl]; exact ⟨by simp,h⟩
 | false =>
  cases ts with
  | nil=>rw [tk_nil]; exact ⟨by simp,fun t ht=>by cases ht⟩
  | cons t l =>
   by_cases hk:t.k = k∧(tx = []∨t.s = tx)
   ·rw [tk_ok hk]; exact ⟨h t List.mem_cons_self,fun u hu=>h u (List.mem_cons_of_mem _ hu)⟩
   ·have:keptTake k tx ⟨t :: l,false⟩ = ([],⟨t :: l,true⟩):=by
     unfold keptTake
     simp only [Bool.false_eq_true,if_false]
     rw [if_neg hk]
    rw [this]; exact ⟨by simp,h⟩
theorem short_pre {x:RS} (h:shortR x):shortR (keptPre x):=by
 obtain ⟨ts,bd⟩:=x
 unfold keptPre
 split
 ·exact h
 ·cases ts with
  | nil=>exact h
  | cons t l =>
   simp only
   split
   ·exact h
   ·exact h
theorem short_name {x:RS} (h:shortR x):shortR (keptName x).2:=(short_take (short_pre h)).2
theorem short_num {x:RS} (h:shortR x):shortR (keptNum x).2:=(short_take h).2
theorem short_lab {x:RS} (h:shortR x):(keptLab x).1.key.length≤maxI∧shortR (keptLab x).2:=⟨(short_take h).1,short_num (short_num (short_take h).2)⟩
theorem p101 (m:Int) (ts:List Tk) (bd:Bool) (b0 b2 b3:List AV) (lv:List (Nat × TypeId)) (hs:shortR ⟨ts,bd⟩) (g0:pOk 5 b0) (g2:pOk 5 b2) (g3:pOk 5 b3) (h0:pOk 7 b0) (h2:pOk 7 b2) (h3:pOk 7 b3):PnOk PQ (GQ m) XR (tbl tR) (itbl []) fsR (ptbl [(97,s97),(100,s100)] J0) g101 101 [.ptr 1 0] (q4 b0 ⟨ts,bd⟩ b2 b3 lv)
  [⟨True,none,.agg [.str (keptLab ⟨ts,bd⟩).1.key,.int .i64 (keptLab ⟨ts,bd⟩).1.event,.int .i64 (keptLab ⟨ts,bd⟩).1.know],q4 b0 (keptLab ⟨ts,bd⟩).2 b2 b3 lv⟩]:=by
 constructor
 rw [w101]; unfold w101c2 w101c1 w101c3 I6
 have hb:∀ (es:List AV) (b:Bool),boxesOk 5 [some b0,some [.sl 3 es .no,.bool b],none,some b2,some b3] = true:=fun es b=>bOkA g0 g2 g3
 simp only [keptUn_ok]
 exact ⟨⟨⟨ts,rfl⟩,h0,h2,h3,trivial⟩,fun _=>⟨⟨⟨_,rfl⟩,h0,h2,h3,trivial,rfl,(short_take (short_take hs).2).1⟩,fun _=>⟨⟨⟨_,rfl⟩,h0,h2,h3,trivial,rfl,(short_take (short_num (short_take hs).2)).1⟩,fun _=>one_end (by rw [hb]; rfl) rfl rfl,trivial⟩,trivial⟩,trivial⟩
theorem o101 (m:Int):PSpecOk PQ (GQ m) 101 s101:=pspec_of mixedQ fun args S p os h hp=>by
 unfold s101 at h
 split at h
 case h_2=>cases h
 injection h with h
 injection h with e1 e2
 subst e1; subst e2
 obtain ⟨⟨ts,rfl⟩,hs,⟨g0,g2,g3⟩,h0,h2,h3⟩:=hp
 simp only [keptUn_ok] at hs ⊢
 exact ⟨_,_,_,_,_,_,tR_ok m,itbl_nil,ptbl_cons (o97 m) (ptbl_cons (o100 m) (ptbl_nil J0_ok)),p101 m ts _ _ _ _ _ hs g0 g2 g3 h0 h2 h3⟩
theorem short_fs:∀ (n:Nat) (x:RS) (fs:List (List UInt8)),shortR x→shortR (keptFs n x fs).2
 | 0,_,_,h=>h
 | n + 1,x,fs,h=>by
  rw [keptFs]
  split
  ·exact short_fs n _ _ (short_name (short_take h).2)
  ·exact h
theorem short_ls:∀ (n:Nat) (x:RS) (ls:List Lb),shortR x→keysOk ls = true→keysOk (keptLs n x ls).1 = true
 | 0,_,_,_,k=>k
 | n + 1,x,ls,h,k=>by
  rw [keptLs]
  split
  ·refine short_ls n _ _ (short_lab (short_take h).2).2 ?_
   have h1:=(short_lab (short_take (k:=5) (tx:=[44]) h).2).1
   unfold keysOk at k ⊢
   rw [List.all_append,k]
   simp only [List.all_cons,List.all_nil,Bool.and_true,Bool.true_and]
   exact decide_eq_true h1
  ·exact k
theorem short_at {r:Rq} {x:RS} (h:shortR x) (k:keysOk r.labels = true):keysOk (keptAt r x).1.labels = true:=by
 unfold keptAt
 split
 ·have h1:=short_lab (short_take (k:=1) (tx:=[97,116]) h).2
  exact short_ls _ _ _ h1.2 (by
   unfold keysOk
   simp only [List.all_cons,List.all_nil,Bool.and_true]
   exact decide_eq_true h1.1)
 ·exact k
theorem short_req {x:RS} (h:shortR x):keysOk (keptReq x).1.labels = true:=by
 unfold keptReq keptSd
 exact short_at (short_num (short_take (short_num (short_take (short_fs _ _ _ (short_name (short_take (short_name (short_take h).2)).2)) ).2)).2) rfl
theorem take_a {t:Tk} {l:List Tk}:takeAt PQ 3 (toksL (t :: l)) 0 2 = some (.int .i64 t.a):=by kernel_rfl
theorem p12 (m:Int) (s:Spec) (bs:List UInt8) (ts:List Tk) (pb:List Pb) (e:Int) (hs:s [bytesA bs] = some (s36v ts pb e)) (hg:e = 0→pb = []→GoodT ts∧NumT ts∧shortR ⟨ts,false⟩):TLaxOk PQ (GQ m) (X12 ts pb e) (tbl [(47,s),(33,s33)]) (itbl []) fsR (ptbl [(48,s48)] J0) g12 12 [bytesA bs] (resT ts pb e,[]):=by
 constructor
 rw [w12]; unfold w12c4 w12c3 w12c2 w12c1 I6
 simp only [keptUn_ok]
 refine ⟨⟨hs⟩,fun h=>?_,fun he=>⟨fun hp=>?_,fun hp=>?_⟩⟩
 ·have:e ≠ 0:=by simpa using h
  unfold resT; rw [if_pos this]
  exact lax_z _ _
 ·have e0:e = 0:=by simpa using he
  cases pb with
  | nil=>exact absurd (of_decide_eq_true hp) (by simp)
  | cons p l =>
   refine ⟨by simp,_,take_pa,by simp,_,take_pc,?_⟩
   unfold resT; rw [if_neg (by omega)]
   exact lax_z _ _
 have e0:e = 0:=by simpa using he
 have p0:pb = []:=by
  cases pb with
  | nil=>rfl
  | cons p l=>exact absurd (of_decide_eq_false hp) (by simp)
 obtain ⟨G,hn,hsh⟩:=hg e0 p0
 have hS:=req_sim G hn
 have hk:=short_req hsh
 have t0:ts ≠ []:=by obtain ⟨t,l,rfl⟩:=gt_cons G; simp
 have hv:resT ts pb e = resP (parseTk ts):=by unfold resT; rw [if_neg (by omega),p0]; simp only [t0,if_false]
 rw [hv]
 refine ⟨⟨⟨ts,rfl⟩,G.few,hsh,trivial,trivial,trivial⟩,fun _=>?_,trivial⟩
 clear hv hs he hp
 generalize keptReq ⟨ts,false⟩ = y at hS hk ⊢
 obtain ⟨r,us,bd⟩:=y
 cases hP:parseTk ts with
 | error a =>
  rw [hP] at hS
  obtain ⟨h1,t,l,h2,h3⟩:=hS
  have h2:us = t :: l:=h2
  subst h2
  have e1:=len_tok t l
  have hz:RetLax (.tup [.agg [.str [],.sl 0 [] .nil,.sl 0 [] .nil,.int .i64 0,.int .i64 0],.int .i64 t.a,.int .i64 90]) (resP (.error a),[]):=by
   rw [h3]; exact lax_z _ _
  refine ⟨fun _=>⟨⟨Int.le_refl _,e1⟩,_,take_a,hz⟩,fun hb=>⟨fun _=>⟨⟨Int.le_refl _,e1⟩,_,take_a,hz⟩,fun _=>⟨⟨Int.le_refl _,e1⟩,_,take_k,fun _=>⟨⟨Int.le_refl _,e1⟩,_,take_a,hz⟩,fun h6=>?_⟩⟩⟩
  exfalso
  have h6:t.k = 6:=by simpa using h6
  rcases h1 with h1 | ⟨u,l',h4,h5⟩
  ·have h1:bd = true:=h1
   have hb:bd = false:=hb
   rw [h1] at hb; cases hb
  ·have h4:t :: l = u :: l':=h4
   injection h4 with h4 _
   subst h4
   exact h5 h6
 | ok r' =>
  rw [hP] at hS
  obtain ⟨h1,h2,t,l,h3,h4⟩:=hS
  have h1:r = r':=h1
  have h2:bd = false:=h2
  have h3:us = t :: l:=h3
  subst h1; subst h2; subst h3
  have e1:=len_tok t l
  refine ⟨fun h=>(nomatch h),fun _=>⟨fun h=>absurd (eq_of_beq h) (by show ¬ (((toksL (t :: l)).length:Int) = 0); omega),fun _=>⟨⟨Int.le_refl _,e1⟩,_,take_k,fun h=>absurd h (by rw [h4]; decide),fun _=>⟨_,⟨run33 hk⟩,fun b=>?_,fun b=>?_⟩⟩⟩⟩
  ·unfold resP; simp only [b,if_true]; exact lax_r r
  ·unfold resP; simp only [b,Bool.false_eq_true,if_false]; exact lax_z _ _
def cvT (t:Lx.L8.TkX):Tk:=⟨t.kind,t.text,t.at_⟩
def cvP (p:Lx.L8.PbX):Pb:=⟨p.at_,p.code⟩
def lexT (bs:List UInt8):List Tk:=if bs.length≤16384 then (Lx.L8.toksX bs).map cvT else []
def lexP (bs:List UInt8):List Pb:=if bs.length≤16384 then (Lx.L8.probsL bs).map cvP else []
def lexE (bs:List UInt8):Int:=if bs.length≤16384 then 0 else 2
theorem s36_at (bs:List UInt8):Lx.s36 [bytesA bs] = some (s36v (lexT bs) (lexP bs) (lexE bs)):=by
 show (if 1 = 1 then Lx.onBytes (bytesL bs) fun bs=>some (Lx.r12 bs) else none) = _
 rw [if_pos rfl]
 unfold Lx.onBytes
 rw [unBytes_mk]
 show some (Lx.r12 bs) = _
 unfold Lx.r12 s36v lexT lexP lexE
 by_cases h:bs.length≤16384
 ·simp only [if_pos h]
  have e1:toksL ((Lx.L8.toksX bs).map cvT) = (Lx.L8.toksX bs).map Lx.L8.tokA:=by
   show List.map _ (List.map _ _) = _; rw [List.map_map]; rfl
  have e2:pbsL ((Lx.L8.probsL bs).map cvP) = (Lx.L8.probsL bs).map Lx.L8.pbX:=by
   show List.map _ (List.map _ _) = _; rw [List.map_map]; rfl
  rw [e1,e2]
  rfl
 ·simp only [if_neg h]
  rfl
theorem dig_eq (c:UInt8):Lx.digitB c = digitB c:=by
 unfold Lx.digitB digitB
 by_cases h1:48≤c.toNat <;> by_cases h2:c.toNat≤57 <;> simp [h1,h2]
structure From (n:Nat) (t:Lx.L8.TkX):Prop where
 out:∃ l,t.kind = (Lx.L8.piece l).1∧t.text = Lx.L8.txtOf l∧(Lx.L8.piece l).2.2 = 0∧l.length≤n
theorem from_scan:∀ (n:Nat) (l:List UInt8) (a:Nat) (adj:Bool),(∀ t ∈ (Lx.L8.scanF n l a adj).1,From l.length t)∧(Lx.L8.scanF n l a adj).1.length≤l.length
 | 0,l,a,adj=>⟨fun t ht=>(by cases ht),Nat.zero_le _⟩
 | n + 1,[],a,adj=>⟨fun t ht=>(by cases ht),Nat.zero_le _⟩
 | n + 1,c :: t,a,adj=>by
  obtain ⟨h1,h2⟩:=from_scan n ((c :: t).drop (Lx.L8.piece (c :: t)).2.1) (a + (Lx.L8.piece (c :: t)).2.1) (Lx.L8.adjOf (c :: t))
  have hp:=Lx.L8.piece_pos c t
  have hl:((c :: t).drop (Lx.L8.piece (c :: t)).2.1).length + 1≤(c :: t).length:=by
   rw [List.length_drop]; simp only [List.length_cons]; omega
  simp only [Lx.L8.scanF]
  refine ⟨fun u hu=>?_,?_⟩
  ·rcases List.mem_append.1 hu with hu | hu
   ·unfold Lx.L8.tkOf at hu
    split at hu
    ·rename_i hc
     simp only [List.mem_cons,List.not_mem_nil,or_false] at hu
     subst hu
     exact ⟨c :: t,rfl,rfl,hc.2.1,Nat.le_refl _⟩
    ·cases hu
   ·obtain ⟨l',e1,e2,e3,e4⟩:=(h1 u hu).out
    exact ⟨l',e1,e2,e3,by omega⟩
  ·rw [List.length_append]
   have:(Lx.L8.tkOf (c :: t) a).length≤1:=by
    unfold Lx.L8.tkOf; split <;> simp
   omega
theorem take_tw (p:UInt8→Bool):∀ (c:UInt8) (t:List UInt8),(c :: t).take (1 + (t.takeWhile p).length) = c :: t.takeWhile p:=fun c t=>by
 rw [Nat.add_comm,List.take_succ_cons]
 congr 1
 exact (List.prefix_iff_eq_take.1 (List.takeWhile_prefix p)).symm
theorem int_txt {l:List UInt8} (h:(Lx.L8.piece l).1 = 2):∃ c t,l = c :: t∧Lx.L8.txtOf l = c :: t.takeWhile Lx.digitB∧Lx.digitB c = true∧((Lx.L8.piece l).2.2 = 0→Lx.L8.valX (c :: t.takeWhile Lx.digitB)≤1152921504606846976):=by
 cases l with
 | nil=>simp [Lx.L8.piece] at h
 | cons c t =>
  have hd:Lx.digitB c = true∧(Lx.L8.piece (c :: t)).2.1 = 1 + (t.takeWhile Lx.digitB).length∧(Lx.L8.piece (c :: t)).2.2 = Lx.L8.intErr ((c :: t).take (1 + (t.takeWhile Lx.digitB).length)):=by
   simp only [Lx.L8.piece] at h ⊢
   repeat' split at h
   all_goals first
    | (exfalso; revert h; simp; done)
    | simp_all
  refine ⟨c,t,rfl,?_,hd.1,fun h0=>?_⟩
  ·unfold Lx.L8.txtOf
   rw [if_neg (by rw [h]; decide),hd.2.1,take_tw]
  ·rw [hd.2.2,take_tw] at h0
   unfold Lx.L8.intErr at h0
   split at h0
   ·cases h0
   ·rename_i h1
    have:(2:Nat) ^ 60 = 1152921504606846976:=by decide
    omega
theorem tw_all (p:UInt8→Bool):∀ l:List UInt8,(l.takeWhile p).all p = true
 | []=>rfl
 | c :: l=>by
  rw [List.takeWhile_cons]
  split
  ·rename_i h; rw [List.all_cons,h,tw_all p l]; rfl
  ·rfl
theorem wr_in {n:Int} (h1:-9223372036854775808≤n) (h2:n < 9223372036854775808):wr64 n = n:=by
 unfold wr64
 simp only [IntKind.wrap,IntKind.bits,IntKind.signed]
 simp
 omega
theorem dig_fold:∀ (l:List UInt8) (n:Nat),l.all digitB = true→valF n l≤1152921504606846976→l.foldl (fun (n:Int) c=>wr64 (wr64 (wr64 (10 * n) + c.toNat) - 48)) (n:Int) = (valF n l:Int)
 | [],n,_,_=>rfl
 | c :: l,n,hd,hv=>by
  simp only [List.all_cons,Bool.and_eq_true,digitB_iff] at hd
  have e:valF n (c :: l) = valF (10 * n + (c.toNat - 48)) l:=rfl
  rw [e] at hv ⊢
  have hge:=valF_ge l (10 * n + (c.toNat - 48))
  rw [List.foldl_cons,wr_in (n:=10 * (n:Int)) (by omega) (by omega),wr_in (n:=10 * (n:Int) + c.toNat) (by omega) (by omega),wr_in (by omega) (by omega),show 10 * (n:Int) + c.toNat - 48 = ((10 * n + (c.toNat - 48):Nat):Int) by omega]
  exact dig_fold l _ hd.2 hv
theorem digV_val {s:List UInt8} (h:s.all digitB = true) (hv:valL s≤1152921504606846976):digV s = numV s:=by
 have:=dig_fold s 0 h (by rw [← valL_eq]; exact hv)
 unfold digV numV
 rw [if_pos (by omega)]
 exact this
theorem txt_len (l:List UInt8):(Lx.L8.txtOf l).length≤l.length:=by
 unfold Lx.L8.txtOf
 split
 ·simp only [List.length_take,List.length_drop]; omega
 ·simp only [List.length_take]; omega
theorem lex_good {bs:List UInt8} (h:lexE bs = 0):GoodT (lexT bs)∧NumT (lexT bs)∧shortR ⟨lexT bs,false⟩:=by
 have hl:bs.length≤16384:=by
  unfold lexE at h
  split at h
  ·assumption
  ·cases h
 have big:maxI = 9223372036854775807:=rfl
 obtain ⟨h1,h2⟩:=from_scan bs.length bs 0 false
 have hT:lexT bs = (Lx.L8.scanF bs.length bs 0 false).1.map cvT ++ [⟨6,[],bs.length⟩]:=by
  unfold lexT
  rw [if_pos hl]
  unfold Lx.L8.toksX Lx.L8.scan
  rw [List.map_append]; rfl
 have hint:∀ t ∈ lexT bs,t.k = 2→t.s.all digitB = true∧t.s ≠ []∧valL t.s≤1152921504606846976:=fun t ht hk=>by
  rw [hT] at ht
  rcases List.mem_append.1 ht with ht | ht
  ·obtain ⟨u,hu,rfl⟩:=List.mem_map.1 ht
   obtain ⟨l,e1,e2,e3,_⟩:=(h1 u hu).out
   have hk':(Lx.L8.piece l).1 = 2:=by rw [← e1]; exact hk
   obtain ⟨c,r,rfl,e4,e5,e6⟩:=int_txt hk'
   have e7:=e6 e3
   have:(cvT u).s = c :: r.takeWhile Lx.digitB:=by show u.text = _; rw [e2,e4]
   rw [this]
   refine ⟨?_,by simp,e7⟩
   have hdig:(fun c=>digitB c) = Lx.digitB:=funext fun c=>(dig_eq c).symm
   have:(c :: r.takeWhile Lx.digitB).all Lx.digitB = true:=by rw [List.all_cons,e5,tw_all]; rfl
   rw [← hdig] at this
   exact this
  ·simp only [List.mem_cons,List.not_mem_nil,or_false] at ht
   subst ht; cases hk
 have hsh:∀ t ∈ lexT bs,t.s.length≤16384:=fun t ht=>by
  rw [hT] at ht
  rcases List.mem_append.1 ht with ht | ht
  ·obtain ⟨u,hu,rfl⟩:=List.mem_map.1 ht
   obtain ⟨l,e1,e2,e3,e4⟩:=(h1 u hu).out
   have:=txt_len l
   show u.text.length≤_
   rw [e2]; omega
  ·simp only [List.mem_cons,List.not_mem_nil,or_false] at ht
   subst ht; simp
 refine ⟨⟨⟨_,_,hT,rfl⟩,fun t ht hk=>⟨?_,by have:=hsh t ht; omega⟩,?_⟩,fun t ht hk=>digV_val (hint t ht hk).1 (hint t ht hk).2.2,fun t ht=>by have:=hsh t ht; omega⟩
 ·obtain ⟨a1,a2,_⟩:=hint t ht hk
  unfold intB
  rw [a1,decide_eq_true a2]; rfl
 ·rw [hT,List.length_append,List.length_map]
  simp only [List.length_cons,List.length_nil]
  omega
abbrev w48c8:List AV:=[AV.ptr 1 0,AV.ptr 3 0,AV.ptr 4 0]
abbrev w48c24 (_ts:List Tk) (x:R48):RS:={ ts:=keptUn (toksL x.x.ts),bad:=x.x.bad }
abbrev w48c9 (ts:List Tk) (x:R48):=keptTake (5:Int) (ByteArray.mk #[44]).data.toList (w48c24 ts x)
abbrev w48c26 (ts:List Tk) (x:R48):RS:={ ts:=keptUn (toksL (w48c9 ts x).snd.ts),bad:=(w48c9 ts x).snd.bad }
abbrev w48c10:List AV:=[AV.str [],AV.sl 0 [] Own.nil,AV.sl 0 [] Own.nil,AV.int IntKind.i64 0,AV.int IntKind.i64 0]
abbrev w48c36 (y:R48):List AV:=[AV.sl 3 (toksL y.x.ts) Own.no,AV.bool y.x.bad]
abbrev w48c21 (b0:List AV) (y:R48):St:={ boxes:=[some b0,some (w48c36 y),none,some w48c10,some [AV.str y.en,AV.sl 1 (strsL y.fs) (Own.tok 0),AV.sl 0 [] Own.nil,AV.int IntKind.i64 0,AV.int IntKind.i64 0]],live:=[(y.fs.length,9)] }
abbrev w48c31 (ts:List Tk) (bd:Bool) (y:R48):Prop:=keptReq { ts:=ts,bad:=bd } = kFs y.en y.x y.fs∧shortR y.x∧y.fs.length + y.x.ts.length≤(ts).length + (1:Nat)
abbrev w48c1 (x:R48) (b0:List AV) (ts:List Tk) (bd:Bool):Prop:=(((1:Nat) = (1:Nat)∨strsL x.fs = [])∧((strsL x.fs).length + (1:Nat)) * (17:Nat)≤(70368744177664:Nat)∧x.fs.length = (strsL x.fs).length∧((∃ (y:R48),ValsAre w48c8 w48c8∧StIs { boxes:=[some b0,some [AV.sl 3 (toksL (keptName (w48c26 ts x)).snd.ts) Own.no,AV.bool (keptName (w48c26 ts x)).snd.bad],none,some w48c10,some [AV.str x.en,AV.sl 1 (strsL x.fs ++ [AV.str (keptName (w48c26 ts x)).fst]) (Own.tok 0),AV.sl 0 [] Own.nil,AV.int IntKind.i64 0,AV.int IntKind.i64 0]],live:=[((strsL x.fs).length + (1:Nat),9)] } (w48c21 b0 y)∧(w48c31 ts bd y)∧y.x.ts.length < x.x.ts.length)∧True)∧True)∧True
abbrev w48c19 (b0:List AV) (y:R48):St:={ boxes:=[some b0,some (w48c36 y),none,some w48c10,some [AV.str y.en,AV.sl 1 (strsL y.fs) (Own.tok 0),AV.sl 3 (lbsL y.ls) (Own.tok 1),AV.int IntKind.i64 y.sd,AV.int IntKind.i64 y.pm]],live:=[(y.fs.length,9),(y.ls.length,65)] }
abbrev w48c23 (ts:List Tk) (bd:Bool) (y:R48):Prop:=keptReq { ts:=ts,bad:=bd } = kLs { entity:=y.en,feats:=y.fs,labels:=[],seed:=y.sd,permille:=y.pm } y.x y.ls∧shortR y.x∧y.ls.length + y.x.ts.length≤(ts).length + (2:Nat)
abbrev w48c2 (b0:List AV) (ts:List Tk) (x:R48) (bd:Bool):Prop:=(((3:Nat) = (3:Nat)∨([]:List AV) = [])∧((0:Nat) + (1:Nat)) * (33:Nat)≤(70368744177664:Nat)∧(0:Nat) = (0:Nat)∧((∃ (y:R48),ValsAre w48c8 w48c8∧StIs { boxes:=[some b0,some [AV.sl 3 (toksL (keptLab (w48c24 ts x)).snd.ts) Own.no,AV.bool (keptLab (w48c24 ts x)).snd.bad],none,some w48c10,some [AV.str x.en,AV.sl 1 (strsL x.fs) (Own.tok 0),AV.sl 3 [AV.agg [AV.str (keptLab (w48c24 ts x)).fst.key,I6 (keptLab (w48c24 ts x)).fst.event,I6 (keptLab (w48c24 ts x)).fst.know]] (Own.tok 1),I6 x.sd,I6 x.pm]],live:=[(x.fs.length,9),(1,65)] } (w48c19 b0 y)∧(w48c23 ts bd y)∧True)∧True)∧True)∧True
abbrev w48c37:List AV:=[AV.str [],AV.sl (nat_lit 0) [] Own.nil,AV.sl (nat_lit 0) [] Own.nil,AV.int IntKind.i64 0,AV.int IntKind.i64 0]
abbrev w48c3 (b0:List AV) (ts:List Tk) (x:R48):List (Option (List AV)):=[some b0,some [AV.sl (nat_lit 3) (toksL (keptLab (w48c26 ts x)).snd.ts) Own.no,AV.bool (keptLab (w48c26 ts x)).snd.bad],none,some w48c37,some [AV.str x.en,AV.sl (nat_lit 1) (strsL x.fs) (Own.tok (nat_lit 0)),AV.sl (nat_lit 3) (lbsL x.ls ++ [AV.agg [AV.str (keptLab (w48c26 ts x)).fst.key,I6 (keptLab (w48c26 ts x)).fst.event,I6 (keptLab (w48c26 ts x)).fst.know]]) (Own.tok (nat_lit 1)),I6 x.sd,I6 x.pm]]
abbrev w48c4 (b0:List AV) (ts:List Tk) (x:R48) (bd:Bool):Prop:=(((1:Nat) = (1:Nat)∨([]:List AV) = [])∧((0:Nat) + (1:Nat)) * (17:Nat)≤(70368744177664:Nat)∧(0:Nat) = (0:Nat)∧((∃ (y:R48),ValsAre w48c8 w48c8∧StIs { boxes:=[some b0,some [AV.sl 3 (toksL (keptName (w48c24 ts x)).snd.ts) Own.no,AV.bool (keptName (w48c24 ts x)).snd.bad],none,some w48c10,some [AV.str x.en,AV.sl 1 [AV.str (keptName (w48c24 ts x)).fst] (Own.tok 0),AV.sl 0 [] Own.nil,AV.int IntKind.i64 0,AV.int IntKind.i64 0]],live:=[(1,9)] } (w48c21 b0 y)∧(w48c31 ts bd y)∧True)∧True)∧True)∧True
abbrev w48c29 (ts:List Tk) (x:R48):=keptTake (1:Int) (ByteArray.mk #[115,101,101,100]).data.toList (w48c24 ts x)
abbrev w48c5 (ts:List Tk) (x:R48):RS:={ ts:=keptUn (toksL (w48c29 ts x).snd.ts),bad:=(w48c29 ts x).snd.bad }
abbrev w48c12 (x:R48):List AV:=[AV.str x.en,AV.sl 1 (strsL x.fs) (Own.tok 0),AV.sl 3 (lbsL x.ls) (Own.tok 1),AV.int IntKind.i64 x.sd,AV.int IntKind.i64 x.pm]
abbrev w48c20 (ts:List Tk) (x:R48) (b0:List AV):Prop:=TokL (toksL (w48c9 ts x).snd.ts)∧(∀ (t:Tk),List.Mem t (keptUn (toksL (w48c9 ts x).snd.ts))→t.s.length≤(9223372036854775807:Nat))∧(b0.all (AV.p1 5) = true∧true = true∧(w48c12 x).all (AV.p1 5) = true)∧b0.all (AV.p1 7) = true∧true = true∧(w48c12 x).all (AV.p1 7) = true
abbrev w48c11 (b0:List AV) (y:R48):List (Option (List AV)):=[some b0,some [AV.sl (nat_lit 3) (toksL y.x.ts) Own.no,AV.bool y.x.bad],none,some w48c37,some [AV.str y.en,AV.sl (nat_lit 1) (strsL y.fs) (Own.tok (nat_lit 0)),AV.sl (nat_lit 3) (lbsL y.ls) (Own.tok (nat_lit 1)),AV.int IntKind.i64 y.sd,AV.int IntKind.i64 y.pm]]
abbrev w48c17 (x:R48) (b0:List AV) (ts:List Tk) (bd:Bool):Prop:=(((3:Nat) = (3:Nat)∨lbsL x.ls = [])∧((lbsL x.ls).length + (1:Nat)) * (33:Nat)≤(70368744177664:Nat)∧x.ls.length = (lbsL x.ls).length∧((∃ (y:R48),ValsAre w48c8 w48c8∧StIs { boxes:=(w48c3 b0 ts x),live:=[(x.fs.length,nat_lit 9),((lbsL x.ls).length + nat_lit 1,nat_lit 65)] } { boxes:=(w48c11 b0 y),live:=[(y.fs.length,nat_lit 9),(y.ls.length,nat_lit 65)] }∧(w48c23 ts bd y)∧y.x.ts.length < x.x.ts.length)∧True)∧True)∧True
abbrev w48c16 (x:R48) (b0:List AV) (ts:List Tk) (bd:Bool):Prop:=((((3:Nat) = (3:Nat)∨lbsL x.ls = [])∧((lbsL x.ls).length + (1:Nat)) * (33:Nat)≤(70368744177664:Nat)∧x.ls.length = (lbsL x.ls).length∧((∃ (y:R48),ValsAre w48c8 [AV.ptr 1 0,AV.ptr 3 0,AV.ptr 4 (nat_lit 0)]∧StIs { boxes:=(w48c3 b0 ts x),live:=[(x.fs.length,nat_lit 9),((lbsL x.ls).length + nat_lit 1,nat_lit 65)] } { boxes:=(w48c11 b0 y),live:=[(y.fs.length,nat_lit 9),(y.ls.length,nat_lit 65)] }∧(w48c23 ts bd y)∧y.x.ts.length < x.x.ts.length)∧True)∧True)∧True)∧True
abbrev w48c6 (ts:List Tk) (x:R48) (b0:List AV) (bd:Bool):Prop:=(((w48c20 ts x b0)∧(True→(w48c17 x b0 ts bd)∧True)∧True)∧True)∧((w48c20 ts x b0)∧(True→((w48c17 x b0 ts bd)∧True)∧(w48c16 x b0 ts bd)∧True)∧True)∧True
abbrev w48c22 (x:R48):List AV:=[AV.str x.en,AV.sl 1 (strsL x.fs) (Own.tok 0),AV.sl 3 [] (Own.tok 1),AV.int IntKind.i64 x.sd,AV.int IntKind.i64 x.pm]
abbrev w48c7 (x:R48) (b0:List AV):Prop:=TokL (toksL x.x.ts)∧(∀ (t:Tk),List.Mem t (keptUn (toksL x.x.ts))→t.s.length≤(9223372036854775807:Nat))∧(b0.all (AV.p1 5) = true∧true = true∧(w48c22 x).all (AV.p1 5) = true)∧b0.all (AV.p1 7) = true∧true = true∧(w48c22 x).all (AV.p1 7) = true
abbrev w48c30 (ts:List Tk) (bd:Bool):=keptTake (1:Int) (ByteArray.mk #[111,102]).data.toList { ts:=keptUn (toksL ts),bad:=(bd) }
abbrev w48c13 (ts:List Tk) (bd:Bool):=keptName { ts:=keptUn (toksL (w48c30 ts bd).snd.ts),bad:=(w48c30 ts bd).snd.bad }
abbrev w48c14 (x:R48):List AV:=[AV.str x.en,AV.sl 1 (strsL x.fs) (Own.tok 0),AV.sl 0 [] Own.nil,AV.int IntKind.i64 0,AV.int IntKind.i64 0]
abbrev w48c15 (ts:List Tk) (x:R48):=keptTake (1:Int) (ByteArray.mk #[107,101,101,112]).data.toList { ts:=keptUn (toksL (keptNum (w48c5 ts x)).snd.ts),bad:=(keptNum (w48c5 ts x)).snd.bad }
abbrev w48c18 (x:R48) (b0:List AV):Prop:=TokL (toksL x.x.ts)∧b0.all (AV.p1 5) = true∧true = true∧[AV.str x.en,AV.sl 1 [] (Own.tok 0),AV.sl 0 [] Own.nil,AV.int IntKind.i64 0,AV.int IntKind.i64 0].all (AV.p1 5) = true
abbrev w48c25 (ts:List Tk) (x:R48) (b0:List AV):Prop:=TokL (toksL (w48c9 ts x).snd.ts)∧b0.all (AV.p1 5) = true∧true = true∧(w48c14 x).all (AV.p1 5) = true
abbrev w48c27 (b0:List AV) (y:R48):St:={ boxes:=[some b0,some (w48c36 y),none,some w48c10,some [AV.str y.en,AV.sl 1 (strsL y.fs) (Own.tok 0),AV.sl 3 [] (Own.tok 1),AV.int IntKind.i64 y.sd,AV.int IntKind.i64 y.pm]],live:=[(y.fs.length,9),(0,65)] }
abbrev w48c28 (x:R48):List AV:=[AV.sl 3 (toksL x.x.ts) Own.no,AV.bool x.x.bad]
abbrev w48c32 (x:R48) (b0:List AV):Prop:=TokL (toksL x.x.ts)∧b0.all (AV.p1 5) = true∧true = true∧(w48c14 x).all (AV.p1 5) = true
abbrev w48c33 (ts:List Tk) (x:R48):RS:={ ts:=keptUn (toksL (w48c15 ts x).snd.ts),bad:=(w48c15 ts x).snd.bad }
abbrev w48c34 (ts:List Tk) (bd:Bool):=keptTake (1:Int) (ByteArray.mk #[116,97,107,101]).data.toList { ts:=keptUn (toksL (w48c13 ts bd).snd.ts),bad:=(w48c13 ts bd).snd.bad }
abbrev w48c35 (x:R48) (ts:List Tk):List AV:=[AV.str x.en,AV.sl 1 (strsL x.fs) (Own.tok 0),AV.sl 0 [] Own.nil,AV.int IntKind.i64 (keptNum (w48c5 ts x)).fst,AV.int IntKind.i64 0]
abbrev w48c38:=ByteArray.mk #[(97:UInt8),(116:UInt8)]
abbrev w48c39 (ts:List Tk) (x:R48) (b0:List AV) (bd:Bool):Prop:=(((w48c25 ts x b0)∧(True→(w48c1 x b0 ts bd)∧True)∧True)∧True)∧((w48c25 ts x b0)∧(True→((w48c1 x b0 ts bd)∧True)∧((w48c1 x b0 ts bd)∧True)∧True)∧True)∧True
abbrev w48c40 (x:R48) (b0:List AV) (ts:List Tk) (bd:Bool):Prop:=(((w48c18 x b0)∧(True→(w48c4 b0 ts x bd)∧True)∧True)∧True)∧((w48c18 x b0)∧(True→((w48c4 b0 ts x bd)∧True)∧((w48c4 b0 ts x bd)∧True)∧True)∧True)∧True
abbrev w48c41 (b0:List AV) (x:R48):St:={ boxes:=[some b0,some (w48c28 x),none,some w48c10,some (w48c12 x)],live:=[(x.fs.length,9),(x.ls.length,65)] }
abbrev w48c42 (x:R48) (b0:List AV) (ts:List Tk) (bd:Bool):Prop:=(((w48c7 x b0)∧(True→(w48c2 b0 ts x bd)∧True)∧True)∧True)∧((w48c7 x b0)∧(True→((w48c2 b0 ts x bd)∧True)∧((w48c2 b0 ts x bd)∧True)∧True)∧True)∧True
theorem w48 (m:Int) (ts:List Tk) (bd:Bool) (b0:List AV) (os:List POut):(pnW PQ idMk (GQ m) XR (tbl tR) (itbl []) fsR (ptbl [(97,s97),(98,s98),(99,s99),(100,s100),(101,s101)] J0) (g48 b0 ⟨ts,bd⟩) 48 [.ptr 1 0] ⟨[some b0,some (rb ⟨ts,bd⟩),none],[]⟩ os) =
((TokL (toksL ts)∧b0.all (AV.p1 5) = true∧true = true∧true = true)∧(True→(TokL (toksL (w48c30 ts bd).snd.ts)∧b0.all (AV.p1 5) = true∧true = true∧true = true)∧(True→((TokL (toksL (w48c13 ts bd).snd.ts)∧b0.all (AV.p1 5) = true∧true = true∧[AV.str (w48c13 ts bd).fst,AV.sl 0 [] Own.nil,AV.sl 0 [] Own.nil,I6 0,I6 0].all (AV.p1 5) = true)∧(True→∃ (y:R48),ValsAre w48c8 w48c8∧StIs { boxes:=[some b0,some [AV.sl 3 (toksL (w48c34 ts bd).snd.ts) Own.no,AV.bool (w48c34 ts bd).snd.bad],none,some w48c10,some [AV.str (w48c13 ts bd).fst,AV.sl 1 [] (Own.tok 0),AV.sl 0 [] Own.nil,I6 0,I6 0]],live:=[(0,9)] } { boxes:=[some b0,some (w48c36 y),none,some w48c10,some [AV.str y.en,AV.sl 1 [] (Own.tok 0),AV.sl 0 [] Own.nil,I6 0,I6 0]],live:=[(0,9)] }∧(keptReq { ts:=ts,bad:=bd } = kk5 y.en y.x∧shortR y.x∧y.x.ts.length≤(ts).length)∧True)∧True)∧∀ (x:R48),keptReq { ts:=ts,bad:=bd } = kk5 x.en x.x∧shortR x.x∧x.x.ts.length≤(ts).length→True→((((((w48c18 x b0)∧(True→(w48c4 b0 ts x bd)∧True)∧True)∧True)∧True)∧(w48c40 x b0 ts bd)∧True)∧((w48c40 x b0 ts bd)∧((w48c18 x b0)∧(True→(((w48c4 b0 ts x bd)∧True)∧((w48c4 b0 ts x bd)∧True)∧True)∧(((w48c4 b0 ts x bd)∧True)∧True)∧True)∧True)∧True)∧True)∧∀ (x:R48),keptReq { ts:=ts,bad:=bd } = kFs x.en x.x x.fs∧shortR x.x∧x.fs.length + x.x.ts.length≤(ts).length + (1:Nat)→True→((∃ (y:R48),ValsAre w48c8 w48c8∧StIs { boxes:=[some b0,some (w48c28 x),none,some w48c10,some (w48c14 x)],live:=[(x.fs.length,9)] } (w48c21 b0 y)∧(w48c31 ts bd y)∧True)∧∀ (x:R48),keptReq { ts:=ts,bad:=bd } = kFs x.en x.x x.fs∧shortR x.x∧x.fs.length + x.x.ts.length≤(ts).length + (1:Nat)→(w48c32 x b0)∧(keptSee (5:Int) (ByteArray.mk #[44]).data.toList (w48c24 ts x) = true→(w48c32 x b0)∧(True→(((((w48c25 ts x b0)∧(True→(w48c1 x b0 ts bd)∧True)∧True)∧True)∧True)∧(w48c39 ts x b0 bd)∧True)∧((w48c39 ts x b0 bd)∧((w48c25 ts x b0)∧(True→(((w48c1 x b0 ts bd)∧True)∧((w48c1 x b0 ts bd)∧True)∧True)∧(((w48c1 x b0 ts bd)∧True)∧True)∧True)∧True)∧True)∧True)∧True)∧(keptSee (5:Int) (ByteArray.mk #[44]).data.toList (w48c24 ts x) = false→∃ (y:R48),ValsAre w48c8 w48c8∧StIs { boxes:=[some b0,some (w48c28 x),none,some w48c10,some (w48c14 x)],live:=[(x.fs.length,9)] } (w48c21 b0 y)∧(keptReq { ts:=ts,bad:=bd } = keptSd { entity:=y.en,feats:=y.fs,labels:=[],seed:=(0:Int),permille:=(0:Int) } y.x∧shortR y.x∧y.x.ts.length≤(ts).length + (1:Nat))∧True)∧True)∧∀ (x:R48),keptReq { ts:=ts,bad:=bd } = keptSd { entity:=x.en,feats:=x.fs,labels:=[],seed:=(0:Int),permille:=(0:Int) } x.x∧shortR x.x∧x.x.ts.length≤(ts).length + (1:Nat)→True→(w48c32 x b0)∧(True→(TokL (toksL (w48c29 ts x).snd.ts)∧b0.all (AV.p1 5) = true∧true = true∧(w48c14 x).all (AV.p1 5) = true∧(keptTake (2:Int) [] (w48c5 ts x)).fst.length≤(9223372036854775807:Nat))∧(True→(TokL (toksL (keptNum (w48c5 ts x)).snd.ts)∧b0.all (AV.p1 5) = true∧true = true∧(w48c35 x ts).all (AV.p1 5) = true)∧(True→((TokL (toksL (w48c15 ts x).snd.ts)∧b0.all (AV.p1 5) = true∧true = true∧(w48c35 x ts).all (AV.p1 5) = true∧(keptTake (2:Int) [] (w48c33 ts x)).fst.length≤(9223372036854775807:Nat))∧(True→∃ (y:R48),ValsAre w48c8 w48c8∧StIs { boxes:=[some b0,some [AV.sl 3 (toksL (keptNum (w48c33 ts x)).snd.ts) Own.no,AV.bool (keptNum (w48c33 ts x)).snd.bad],none,some w48c10,some [AV.str x.en,AV.sl 1 (strsL x.fs) (Own.tok 0),AV.sl 3 [] (Own.tok 1),I6 (keptNum (w48c5 ts x)).fst,I6 (keptNum (w48c33 ts x)).fst]],live:=[(x.fs.length,9),(0,65)] } (w48c27 b0 y)∧(keptReq { ts:=ts,bad:=bd } = keptAt { entity:=y.en,feats:=y.fs,labels:=[],seed:=y.sd,permille:=y.pm } y.x∧shortR y.x∧y.x.ts.length≤(ts).length + (1:Nat))∧True)∧True)∧∀ (x:R48),keptReq { ts:=ts,bad:=bd } = keptAt { entity:=x.en,feats:=x.fs,labels:=[],seed:=x.sd,permille:=x.pm } x.x∧shortR x.x∧x.x.ts.length≤(ts).length + (1:Nat)→True→((TokL (toksL x.x.ts)∧b0.all (AV.p1 5) = true∧true = true∧(w48c22 x).all (AV.p1 5) = true)∧(keptSee (1:Int) w48c38.data.toList (w48c24 ts x) = true→((TokL (toksL x.x.ts)∧b0.all (AV.p1 5) = true∧true = true∧(w48c22 x).all (AV.p1 5) = true)∧(True→∃ (y:R48),ValsAre w48c8 w48c8∧StIs { boxes:=[some b0,some [AV.sl 3 (toksL (keptTake (1:Int) w48c38.data.toList (w48c24 ts x)).snd.ts) Own.no,AV.bool (keptTake (1:Int) w48c38.data.toList (w48c24 ts x)).snd.bad],none,some w48c10,some (w48c22 x)],live:=[(x.fs.length,9),(0,65)] } (w48c27 b0 y)∧(keptReq { ts:=ts,bad:=bd } = kk15 { entity:=y.en,feats:=y.fs,labels:=[],seed:=y.sd,permille:=y.pm } y.x∧shortR y.x∧y.x.ts.length≤(ts).length + (1:Nat))∧True)∧True)∧∀ (x:R48),keptReq { ts:=ts,bad:=bd } = kk15 { entity:=x.en,feats:=x.fs,labels:=[],seed:=x.sd,permille:=x.pm } x.x∧shortR x.x∧x.x.ts.length≤(ts).length + (1:Nat)→True→((((((w48c7 x b0)∧(True→(w48c2 b0 ts x bd)∧True)∧True)∧True)∧True)∧(w48c42 x b0 ts bd)∧True)∧((w48c42 x b0 ts bd)∧((w48c7 x b0)∧(True→(((w48c2 b0 ts x bd)∧True)∧((w48c2 b0 ts x bd)∧True)∧True)∧(((w48c2 b0 ts x bd)∧True)∧True)∧True)∧True)∧True)∧True)∧∀ (x:R48),keptReq { ts:=ts,bad:=bd } = kLs { entity:=x.en,feats:=x.fs,labels:=[],seed:=x.sd,permille:=x.pm } x.x x.ls∧shortR x.x∧x.ls.length + x.x.ts.length≤(ts).length + (2:Nat)→True→(∃ (y:R48),ValsAre w48c8 w48c8∧StIs (w48c41 b0 x) (w48c19 b0 y)∧(w48c23 ts bd y)∧True)∧∀ (x:R48),keptReq { ts:=ts,bad:=bd } = kLs { entity:=x.en,feats:=x.fs,labels:=[],seed:=x.sd,permille:=x.pm } x.x x.ls∧shortR x.x∧x.ls.length + x.x.ts.length≤(ts).length + (2:Nat)→(TokL (toksL x.x.ts)∧b0.all (AV.p1 5) = true∧true = true∧(w48c12 x).all (AV.p1 5) = true)∧(keptSee (5:Int) (ByteArray.mk #[44]).data.toList (w48c24 ts x) = true→(TokL (toksL x.x.ts)∧b0.all (AV.p1 5) = true∧true = true∧(w48c12 x).all (AV.p1 5) = true)∧(True→(((((w48c20 ts x b0)∧(True→((((3:Nat) = (3:Nat)∨lbsL x.ls = [])∧((lbsL x.ls).length + (1:Nat)) * (33:Nat)≤(70368744177664:Nat)∧x.ls.length = (lbsL x.ls).length∧((∃ (y:R48),ValsAre w48c8 w48c8∧StIs { boxes:=(w48c3 b0 ts x),live:=[(x.fs.length,9),((lbsL x.ls).length + (1:Nat),nat_lit 65)] } { boxes:=(w48c11 b0 y),live:=[(y.fs.length,9),(y.ls.length,nat_lit 65)] }∧(w48c23 ts bd y)∧y.x.ts.length < x.x.ts.length)∧True)∧True)∧True)∧True)∧True)∧True)∧True)∧(w48c6 ts x b0 bd)∧True)∧((w48c6 ts x b0 bd)∧((w48c20 ts x b0)∧(True→(((w48c17 x b0 ts bd)∧True)∧(w48c16 x b0 ts bd)∧True)∧((w48c16 x b0 ts bd)∧True)∧True)∧True)∧True)∧True)∧True)∧(keptSee (5:Int) (ByteArray.mk #[44]).data.toList (w48c24 ts x) = false→∃ (y:R48),ValsAre w48c8 w48c8∧StIs (w48c41 b0 x) (w48c19 b0 y)∧keptReq { ts:=ts,bad:=bd } = ({ entity:=y.en,feats:=y.fs,labels:=y.ls,seed:=y.sd,permille:=y.pm },y.x)∧True)∧True)∧(keptSee (1:Int) w48c38.data.toList (w48c24 ts x) = false→∃ (y:R48),ValsAre w48c8 w48c8∧StIs { boxes:=[some b0,some (w48c28 x),none,some w48c10,some (w48c22 x)],live:=[(x.fs.length,9),(0,65)] } (w48c19 b0 y)∧keptReq { ts:=ts,bad:=bd } = ({ entity:=y.en,feats:=y.fs,labels:=y.ls,seed:=y.sd,permille:=y.pm },y.x)∧True)∧True)∧∀ (x:R48),keptReq { ts:=ts,bad:=bd } = ({ entity:=x.en,feats:=x.fs,labels:=x.ls,seed:=x.sd,permille:=x.pm },x.x)→True→PEnd (AV.p2 3 (AV.agg (w48c12 x)) && boxesOk 3 [some b0,some (w48c28 x),none]) none (AV.agg (w48c12 x)) { boxes:=[some b0,some (w48c28 x),none],live:=[(x.fs.length,9),(x.ls.length,65)] } os)∧True)∧True)∧True)∧True)∧True):=by kernel_rfl
theorem fs_go {n:Nat} {x:RS} {fs:List (List UInt8)} (h:keptSee 5 [44] x = true) (hn:x.ts.length = n + 1):keptFs x.ts.length x fs = keptFs (keptName (keptTake 5 [44] x).2).2.ts.length (keptName (keptTake 5 [44] x).2).2 (fs ++ [(keptName (keptTake 5 [44] x).2).1]):=by
 have h1:=see_len h
 have h2:(keptName (keptTake 5 [44] x).2).2.ts.length≤n:=Nat.le_trans name_len (by omega)
 rw [hn,keptFs,if_pos h,fs_more n _ _ h2]
theorem fs_stop {x:RS} {fs:List (List UInt8)} (h:keptSee 5 [44] x = false):keptFs x.ts.length x fs = (fs,x):=by
 cases x.ts.length with
 | zero=>rfl
 | succ n=>rw [keptFs,h,if_neg (by simp)]
theorem ls_go {n:Nat} {x:RS} {fs:List Lb} (h:keptSee 5 [44] x = true) (hn:x.ts.length = n + 1):keptLs x.ts.length x fs = keptLs (keptLab (keptTake 5 [44] x).2).2.ts.length (keptLab (keptTake 5 [44] x).2).2 (fs ++ [(keptLab (keptTake 5 [44] x).2).1]):=by
 have h1:=see_len h
 have h2:(keptLab (keptTake 5 [44] x).2).2.ts.length≤n:=Nat.le_trans lab_len (by omega)
 rw [hn,keptLs,if_pos h,ls_more n _ _ h2]
theorem ls_stop {x:RS} {fs:List Lb} (h:keptSee 5 [44] x = false):keptLs x.ts.length x fs = (fs,x):=by
 cases x.ts.length with
 | zero=>rfl
 | succ n=>rw [keptLs,h,if_neg (by simp)]
theorem p48 (m:Int) (ts:List Tk) (bd:Bool) (b0:List AV) (hl:ts.length≤900000) (hs:shortR ⟨ts,bd⟩) (h3:pOk 3 b0) (h5:pOk 5 b0) (h7:pOk 7 b0):PnOk PQ (GQ m) XR (tbl tR) (itbl []) fsR (ptbl [(97,s97),(98,s98),(99,s99),(100,s100),(101,s101)] J0) (g48 b0 ⟨ts,bd⟩) 48 [.ptr 1 0] ⟨[some b0,some (rb ⟨ts,bd⟩),none],[]⟩
  [⟨True,none,rqV (keptReq ⟨ts,bd⟩).1,⟨[some b0,some (rb (keptReq ⟨ts,bd⟩).2),none],[((keptReq ⟨ts,bd⟩).1.feats.length,9),((keptReq ⟨ts,bd⟩).1.labels.length,65)]⟩⟩]:=by
 constructor
 rw [w48]; unfold w48c42 w48c41 w48c40 w48c39 w48c38 w48c35 w48c34 w48c33 w48c32 w48c28 w48c27 w48c25 w48c18 w48c15 w48c14 w48c13 w48c30 w48c7 w48c22 w48c6 w48c16 w48c17 w48c11 w48c20 w48c12 w48c5 w48c29 w48c4 w48c3 w48c37 w48c2 w48c23 w48c19 w48c1 w48c31 w48c21 w48c36 w48c10 w48c26 w48c9 w48c24 w48c8 I6
 have hn:∀ l:List (List UInt8),(strsL l).length = l.length:=fun l=>List.length_map _
 have hm:∀ l:List Lb,(lbsL l).length = l.length:=fun l=>List.length_map _
 have q5:b0.all (AV.p1 5) = true:=h5
 have q7:b0.all (AV.p1 7) = true:=h7
 have tk:∀ ts:List Tk,TokL (toksL ts):=fun ts=>⟨_,rfl⟩
 simp only [keptUn_ok,hn,hm,q5,q7,tk,and_true,true_and,forall_const,and_assoc,true_or,Nat.reduceAdd,Nat.reduceMul,Nat.reduceLeDiff,and_self]
 refine ⟨rfl,⟨⟨(keptName (keptTake 1 [111,102] ⟨ts,bd⟩).2).1,[],[],0,0,(keptTake 1 [116,97,107,101] (keptName (keptTake 1 [111,102] ⟨ts,bd⟩).2).2).2⟩,⟨rfl⟩,⟨rfl⟩,rfl,(short_take (short_name (short_take hs).2)).2,Nat.le_trans take_len (Nat.le_trans name_len take_len)⟩,?_⟩
 rintro ⟨en,fs,ls,sd,pm,x⟩ ⟨h1,h2,h4⟩
 dsimp only at h1 h2 h4 ⊢
 refine ⟨rfl,⟨⟨en,[(keptName x).1],[],0,0,(keptName x).2⟩,⟨rfl⟩,⟨rfl⟩,h1,short_name h2,?_⟩,?_⟩
 ·have:=name_len (x:=x)
  simp only [List.length_cons,List.length_nil]; omega
 clear h1 h2 h4 x en fs ls sd pm
 rintro ⟨en,fs,ls,sd,pm,x⟩ ⟨h1,h2,h4⟩
 dsimp only at h1 h2 h4 ⊢
 refine ⟨⟨⟨en,fs,ls,sd,pm,x⟩,⟨rfl⟩,⟨rfl⟩,h1,h2,h4⟩,?_,?_⟩
 ·clear h1 h2 h4 x en fs ls sd pm
  rintro ⟨en,fs,ls,sd,pm,x⟩ ⟨h1,h2,h4⟩
  dsimp only at h1 h2 h4 ⊢
  refine ⟨rfl,fun hc=>?_,fun hc=>?_⟩
  ·have hc:keptSee 5 [44] x = true:=hc
   have e1:=see_len hc
   have e2:=name_len (x:=(keptTake 5 [44] x).2)
   obtain ⟨n,hx⟩:∃ n,x.ts.length = n + 1:=⟨x.ts.length - 1,by omega⟩
   refine ⟨rfl,rfl,by omega,⟨en,fs ++ [(keptName (keptTake 5 [44] x).2).1],ls,sd,pm,(keptName (keptTake 5 [44] x).2).2⟩,⟨rfl⟩,⟨?_⟩,?_,short_name (short_take h2).2,?_,?_⟩
   ·simp only [List.map_append,List.length_append]; rfl
   ·rw [h1]; unfold kFs; rw [fs_go hc hx]
   ·simp only [List.length_append,List.length_cons,List.length_nil]; omega
   ·show (keptName (keptTake 5 [44] x).2).2.ts.length < x.ts.length; omega
  ·have hc:keptSee 5 [44] x = false:=hc
   exact ⟨⟨en,fs,ls,sd,pm,x⟩,⟨rfl⟩,⟨rfl⟩,by rw [h1]; unfold kFs; rw [fs_stop hc],h2,by show x.ts.length≤_; omega⟩
 clear h1 h2 h4 x en fs ls sd pm
 rintro ⟨en,fs,ls,sd,pm,x⟩ ⟨h1,h2,h4⟩
 dsimp only at h1 h2 h4 ⊢
 have g1:=short_take (k:=1) (tx:=[115,101,101,100]) h2
 have g2:=short_take (k:=2) (tx:=[]) g1.2
 have g3:=short_take (k:=1) (tx:=[107,101,101,112]) g2.2
 have g4:=short_take (k:=2) (tx:=[]) g3.2
 refine ⟨rfl,rfl,g2.1,rfl,rfl,g4.1,⟨⟨en,fs,[],(keptNum (keptTake 1 [115,101,101,100] x).2).1,(keptNum (keptTake 1 [107,101,101,112] (keptNum (keptTake 1 [115,101,101,100] x).2).2).2).1,(keptNum (keptTake 1 [107,101,101,112] (keptNum (keptTake 1 [115,101,101,100] x).2).2).2).2⟩,⟨rfl⟩,⟨rfl⟩,h1,g4.2,Nat.le_trans (Nat.le_trans num_len (Nat.le_trans take_len (Nat.le_trans num_len take_len))) h4⟩,?_⟩
 clear h1 h2 h4 g1 g2 g3 g4 x en fs ls sd pm
 rintro ⟨en,fs,ls,sd,pm,x⟩ ⟨h1,h2,h4⟩
 dsimp only at h1 h2 h4 ⊢
 refine ⟨rfl,fun hc=>?_,fun hc=>?_,?_⟩
 ·have hc:keptSee 1 [97,116] x = true:=hc
  refine ⟨rfl,⟨⟨en,fs,[],sd,pm,(keptTake 1 [97,116] x).2⟩,⟨rfl⟩,⟨rfl⟩,by rw [h1]; unfold keptAt; rw [if_pos hc]; rfl,(short_take h2).2,Nat.le_trans take_len h4⟩,?_⟩
  clear h1 h2 h4 hc; clear hc x en fs ls sd pm
  rintro ⟨en,fs,ls,sd,pm,x⟩ ⟨h1,h2,h4⟩
  dsimp only at h1 h2 h4 ⊢
  refine ⟨h2,rfl,rfl,⟨⟨en,fs,[(keptLab x).1],sd,pm,(keptLab x).2⟩,⟨rfl⟩,⟨rfl⟩,h1,(short_lab h2).2,?_⟩,?_⟩
  ·have:=lab_len (x:=x)
   simp only [List.length_cons,List.length_nil]; omega
  clear h1 h2 h4 x en fs ls sd pm
  rintro ⟨en,fs,ls,sd,pm,x⟩ ⟨h1,h2,h4⟩
  dsimp only at h1 h2 h4 ⊢
  refine ⟨⟨⟨en,fs,ls,sd,pm,x⟩,⟨rfl⟩,⟨rfl⟩,h1,h2,h4⟩,?_⟩
  clear h1 h2 h4 x en fs ls sd pm
  rintro ⟨en,fs,ls,sd,pm,x⟩ ⟨h1,h2,h4⟩
  dsimp only at h1 h2 h4 ⊢
  refine ⟨rfl,fun hc=>?_,fun hc=>?_⟩
  ·have hc:keptSee 5 [44] x = true:=hc
   have e1:=see_len hc
   have e2:=lab_len (x:=(keptTake 5 [44] x).2)
   obtain ⟨n,hx⟩:∃ n,x.ts.length = n + 1:=⟨x.ts.length - 1,by omega⟩
   refine ⟨rfl,(short_take h2).2,rfl,rfl,by omega,⟨en,fs,ls ++ [(keptLab (keptTake 5 [44] x).2).1],sd,pm,(keptLab (keptTake 5 [44] x).2).2⟩,⟨rfl⟩,⟨?_⟩,?_,(short_lab (short_take h2).2).2,?_,?_⟩
   ·simp only [List.map_append,List.length_append]; rfl
   ·rw [h1]; unfold kLs; rw [ls_go hc hx]
   ·simp only [List.length_append,List.length_cons,List.length_nil]; omega
   ·show (keptLab (keptTake 5 [44] x).2).2.ts.length < x.ts.length; omega
  ·have hc:keptSee 5 [44] x = false:=hc
   exact ⟨⟨en,fs,ls,sd,pm,x⟩,⟨rfl⟩,⟨rfl⟩,by rw [h1]; unfold kLs; rw [ls_stop hc]⟩
 ·have hc:keptSee 1 [97,116] x = false:=hc
  exact ⟨⟨en,fs,[],sd,pm,x⟩,⟨rfl⟩,⟨rfl⟩,by rw [h1]; unfold keptAt; rw [hc,if_neg (by simp)]⟩
 clear h1 h2 h4 x en fs ls sd pm
 rintro ⟨en,fs,ls,sd,pm,x⟩ h1
 dsimp only at h1 ⊢
 have q3:b0.all (AV.p1 3) = true:=h3
 refine one_end ?_ (by rw [h1]; rfl) (by rw [h1]; rfl)
 simp only [boxesOk,q3,Bool.or_true,Bool.true_and]
 rfl
theorem o48 (m:Int):PSpecOk PQ (GQ m) 48 s48:=pspec_of mixedQ fun args S p os h hp=>by
 unfold s48 at h
 split at h
 case h_2=>cases h
 injection h with h
 injection h with e1 e2
 subst e1; subst e2
 obtain ⟨⟨ts,rfl⟩,hl,hs,h3,h5,h7⟩:=hp
 simp only [keptUn_ok] at hl hs ⊢
 exact ⟨_,_,_,_,_,_,tR_ok m,itbl_nil,ptbl_cons (o97 m) (ptbl_cons (o98 m) (ptbl_cons (o99 m) (ptbl_cons (o100 m) (ptbl_cons (o101 m) (ptbl_nil J0_ok))))),p48 m ts _ _ hl hs h3 h5 h7⟩
def parseB (bs:List UInt8):AV:=resT (lexT bs) (lexP bs) (lexE bs)
def sParse:Spec:=fun args=>match args with
 | [.sl sz es .no]=>match unBytes es with
  | some bs=>if sz = 1 then some (parseB bs,[]) else none
  | none=>none
 | _=>none
theorem o11g (m:Int):SpecOk PQ (GQ m) 11 sParse:=tlax_of' mixedQ fun args r h=>by
 unfold sParse at h
 split at h
 case h_2=>cases h
 split at h
 case h_2=>cases h
 rename_i bs hb
 split at h
 case isFalse=>cases h
 rename_i hz
 injection h with h; subst h; subst hz
 rw [unBytes_some hb]
 have hR:=tbl_cons (Lx.o36' m) (tbl_cons (o46 m) tbl_nil)
 exact ⟨_,_,_,_,_,_,hR,itbl_nil,inlW_ok mixedQ hR itbl_nil (J1_ok m),p11 m Lx.s36 bs _ _ _ (s36_at bs) fun he _ _=>(lex_good he).1⟩
theorem o12g (m:Int):SpecOk PQ (GQ m) 12 sParse:=tlax_of' mixedQ fun args r h=>by
 unfold sParse at h
 split at h
 case h_2=>cases h
 split at h
 case h_2=>cases h
 rename_i bs hb
 split at h
 case isFalse=>cases h
 rename_i hz
 injection h with h; subst h; subst hz
 rw [unBytes_some hb]
 exact ⟨_,_,_,_,_,_,tbl_cons (Lx.o47' m) (tbl_cons (o33 m) tbl_nil),itbl_nil,ptbl_cons (o48 m) (ptbl_nil J0_ok),p12 m Lx.s36 bs _ _ _ (s36_at bs) fun he _=>lex_good he⟩
def prP (x:Except Int Rq):PRq:=
 match x with
 | .error a=>⟨zRq,a,90⟩
 | .ok r=>if formB r then ⟨r,0,0⟩ else ⟨zRq,0,240⟩
def prT (ts:List Tk) (pb:List Pb) (e:Int):PRq:=
 if e ≠ 0 then ⟨zRq,0,e⟩ else
 match pb with
 | p :: _=>⟨zRq,p.a,p.c⟩
 | []=>if ts = [] then ⟨zRq,0,90⟩ else prP (parseTk ts)
def prB (bs:List UInt8):PRq:=prT (lexT bs) (lexP bs) (lexE bs)
theorem res_prA (x:Except Int Rq):resP x = prA (prP x):=by
 unfold resP prP
 cases x with
 | error a=>rfl
 | ok r=>simp only; split <;> rfl
theorem parse_prT (ts:List Tk) (pb:List Pb) (e:Int):resT ts pb e = prA (prT ts pb e):=by
 unfold resT prT
 by_cases h:e ≠ 0
 ·rw [if_pos h,if_pos h]; rfl
 ·rw [if_neg h,if_neg h]
  cases pb with
  | cons p l=>rfl
  | nil =>
   simp only
   by_cases ht:ts = []
   ·rw [if_pos ht,if_pos ht]; rfl
   ·rw [if_neg ht,if_neg ht]; exact res_prA _
theorem parse_prA (bs:List UInt8):parseB bs = prA (prB bs):=parse_prT _ _ _
theorem prP_form (x:Except Int Rq):(prP x).r = zRq∨formB (prP x).r = true:=by
 unfold prP
 split
 ·exact .inl rfl
 ·split
  ·rename_i h; exact .inr h
  ·exact .inl rfl
theorem prB_form (bs:List UInt8):(prB bs).r = zRq∨formB (prB bs).r = true:=by
 unfold prB prT
 split
 ·exact .inl rfl
 ·split
  ·exact .inl rfl
  ·split
   ·exact .inl rfl
   ·exact prP_form _
theorem prB_few (bs:List UInt8):(prB bs).r.feats.length≤8∧(prB bs).r.labels.length≤256:=by
 rcases prB_form bs with h | h
 ·rw [h]; exact ⟨Nat.zero_le _,Nat.zero_le _⟩
 ·have F:=fmt_in h
  exact ⟨F.nf,F.nl⟩
theorem runP (bs:List UInt8):sParse [.sl 1 (bytesL bs) .no] = some (prA (prB bs),[]):=by
 unfold sParse
 simp only [unBytes_mk,parse_prA]
 rfl
def a3 (r:Rq):Anns:=⟨fun k=>match k with
 | 1000006=>some { α:=List UInt8,slots:=[3,5],nb:=1,vals:=fun x=>[.ptr 0 0,.sl 1 (bytesL x) .no],sS:=fun _=>stR r,I:=fun _=>True,μ:=fun _=>0 }
 | _=>none,nA⟩
def t3:List (FuncId × Spec):=[(10,s10),(11,sParse),(12,sParse),(13,s13),(14,s14),(15,s15),(16,sTrue)]
abbrev w3c1 (x:Rq):List AV:=[AV.str x.entity,AV.sl 1 (strsL x.feats) Own.no,AV.sl 3 (lbsL x.labels) Own.no,AV.int IntKind.i64 x.seed,AV.int IntKind.i64 x.permille]
theorem w3 (m:Int) (bs:List UInt8) (x:Rq) (r:AV):(pureW PQ (GQ m) XT (tbl t3) (itbl []) (a3 x) [] 3 [.sl 1 (bytesL bs) .no,rqA x] (r,[])) =
(∃ (b:Bool),CallIs (tbl [(10,s10),(11,sParse),(12,sParse),(13,s13),(14,s14),(15,s15),(16,sTrue)] 10 [AV.agg (w3c1 x)]) (AV.bool b) []∧(b = true→((decide ((↑(bytesL bs).length:Int) > (2000:Int)) = true→(0:Int)≤(2000:Int)∧((0:Nat)≤(2000:Nat)∧(2000:Nat)≤(bytesL bs).length)∧((1:Nat) = (1:Nat)∨bytesL bs = [])∧∃ (y:List UInt8),ValsAre [AV.ptr 0 0,AV.sl 1 (List.drop 0 (List.take 2000 (bytesL bs))) Own.no] [AV.ptr 0 0,AV.sl 1 (bytesL y) Own.no]∧StIs { boxes:=[some (w3c1 x)],live:=[] } { boxes:=[some (w3c1 x)],live:=[] }∧True∧True)∧(decide ((↑(bytesL bs).length:Int) > (2000:Int)) = false→∃ (y:List UInt8),ValsAre [AV.ptr 0 0,AV.sl 1 (bytesL bs) Own.no] [AV.ptr 0 0,AV.sl 1 (bytesL y) Own.no]∧StIs { boxes:=[some (w3c1 x)],live:=[] } { boxes:=[some (w3c1 x)],live:=[] }∧True∧True))∧∀ (x_1:List UInt8),True→True→∃ (s:List UInt8),∃ (es:List AV),∃ (es_1:List AV),∃ (n:Int),∃ (n_1:Int),∃ (n_2:Int),∃ (n_3:Int),CallIs (tbl [(10,s10),(11,sParse),(12,sParse),(13,s13),(14,s14),(15,s15),(16,sTrue)] 11 [AV.sl 1 (bytesL x_1) Own.no]) (AV.tup [AV.agg [AV.str s,AV.sl 1 es Own.no,AV.sl 3 es_1 Own.no,I6 n,I6 n_1],I6 n_2,I6 n_3]) []∧∃ (s_1:List UInt8),∃ (es_2:List AV),∃ (es_3:List AV),∃ (n_4:Int),∃ (n_5:Int),∃ (n_6:Int),∃ (n_7:Int),CallIs (tbl [(10,s10),(11,sParse),(12,sParse),(13,s13),(14,s14),(15,s15),(16,sTrue)] 12 [AV.sl 1 (bytesL x_1) Own.no]) (AV.tup [AV.agg [AV.str s_1,AV.sl 1 es_2 Own.no,AV.sl 3 es_3 Own.no,I6 n_4,I6 n_5],I6 n_6,I6 n_7]) []∧∃ (b:Bool),CallIs (tbl [(10,s10),(11,sParse),(12,sParse),(13,s13),(14,s14),(15,s15),(16,sTrue)] 13 [AV.agg [AV.str s,AV.sl 1 es Own.no,AV.sl 3 es_1 Own.no,I6 n,I6 n_1],AV.agg [AV.str s_1,AV.sl 1 es_2 Own.no,AV.sl 3 es_3 Own.no,I6 n_4,I6 n_5]]) (AV.bool b) []∧(b = true→((n_2 == n_6) = true→((n_3 == n_7) = true→∃ (s:List UInt8),CallIs (tbl [(10,s10),(11,sParse),(12,sParse),(13,s13),(14,s14),(15,s15),(16,sTrue)] 14 [AV.agg (w3c1 x)]) (AV.str s) []∧∃ (s_2:List UInt8),CallIs (tbl [(10,s10),(11,sParse),(12,sParse),(13,s13),(14,s14),(15,s15),(16,sTrue)] 15 [AV.agg (w3c1 x)]) (AV.str s_2) []∧((s == s_2) = true→∃ (b:Bool),CallIs (some (AV.bool true,[])) (AV.bool b) []∧(b = true→RetIs (AV.bool true) [] (r,[]))∧(b = false→RetIs (AV.bool false) [] (r,[])))∧((s == s_2) = false→RetIs (AV.bool false) [] (r,[])))∧((n_3 == n_7) = false→RetIs (AV.bool false) [] (r,[])))∧((n_2 == n_6) = false→RetIs (AV.bool false) [] (r,[])))∧(b = false→RetIs (AV.bool false) [] (r,[])))∧(b = false→RetIs (AV.bool true) [] (r,[]))):=by kernel_rfl
end Go.Abs
namespace Go.Abs
open Go.Proofs Go.RowKit
section
variable {P : Program} {G : Glob}
theorem ISpecOk.mono {f:FuncId} {s s':ISpec} (hs:ISpecOk P G f s) (h:∀ args S p r,s' args S = some (p,r)→p→∃ p',s args S = some (p',r)∧p'):ISpecOk P G f s':=by
 intro g args S r S' hr
 simp only [lowC] at hr
 by_cases e:g = f
 ·subst e
  simp only [if_true] at hr
  split at hr
  case h_2=>cases hr
  rename_i x hx
  split at hr
  case isFalse=>cases hr
  rename_i hp
  injection hr with hr
  obtain ⟨p',h1,h2⟩:=h args S x.1 x.2 hx hp
  refine hs g args S r S' ?_
  simp only [lowC,if_true,h1]
  rw [if_pos h2,hr]
 ·simp only [if_neg e] at hr
  cases hr
def sClone (sz bytes:Nat):ISpec:=fun args S=>match args with
 | [.sl sz' es _]=>if es.isEmpty then some (True,.sl sz [] .full,S) else if sz' = sz then some (es.length * bytes≤140737488355328,.ms S.boxes.length sz es.length,{ S with boxes:=S.boxes ++ [some (ownC sz es)] }) else none
 | _=>none
theorem oClone {f:FuncId} {e:TypeId} {sz bytes:Nat} (hgd:goodFn P f) (hsz:0 < sz)
  (hc:∀ (b off n c:Nat) (news:List Value) (w:World),news.length = n * sz→n≤maxLen→n * bytes≤140737488355328→(∀ j u,news[j]? = some u→w.cell? ⟨b,off + j,none⟩ = some u)→(∀ u ∈ news,u.oneCell' = true) →
   Calls P f #[.slice (some ⟨b,off,none⟩) n c] w fun x w'=>∃ v',x = .returned v'∧w'.ownsRow w.heap.size e sz v' n news∧v' ≠ .slice none 0 0∧Below w.heap.size w w')
  (hnil:∀ (n c:Nat) (w:World),Calls P f #[.slice none n c] w fun x w'=>x = .returned (.slice none 0 0)∧w' = w)
  (h0:∀ (a:Addr) (c:Nat) (w:World),Calls P f #[.slice (some a) 0 c] w fun x w'=>∃ A,x = .returned (.slice A 0 0)∧Below w.heap.size w w'):ISpecOk P G f (sClone sz bytes):=by
 intro f' args S r S' h
 simp only [lowC] at h
 split at h
 case h_2=>cases h
 rename_i x hx
 split at h
 case isFalse=>cases h
 rename_i hp
 injection h with h
 split at hx
 case isFalse=>cases hx
 rename_i ef
 subst ef
 unfold sClone at hx
 split at hx
 case h_2=>cases hx
 rename_i sz' es o
 split at hx
 ·rename_i hes
  injection hx with hx
  subst hx
  simp only [Prod.mk.injEq] at h
  obtain ⟨rfl,rfl⟩:=h
  have hes':es = []:=by simpa using hes
  subst hes'
  refine ⟨hgd,fun N0 w0 I0 E w vs hS hvs hv=>?_⟩
  obtain ⟨a,rfl⟩:=vs_one hvs
  have hr:=hv 0 _ _ rfl rfl
  have hout:∀ (E':Env) (w':World) (A:Option Addr),Rep E' w' (.sl sz [] .full) (.slice A 0 0):=fun E' w' A =>
   .sl sz [] .full A 0 (fun _ _=>.bool true) (Nat.le_refl _) (Nat.zero_le _) (.inl rfl) (by simp) (by simp) rfl (by simp) (fun _ _=>rfl)
  cases hr with | sl _ _ _ A cap u hcap hmax hA _ _ _ _ _ =>
  cases A with
  | none =>
   refine (hnil 0 cap w).mono ?_
   rintro x w' ⟨rfl,rfl⟩
   exact ⟨_,E,rfl,hS,Env.Le.refl _ _,hout _ _ _⟩
  | some A =>
   refine (h0 A cap w).mono ?_
   rintro x w' ⟨A',rfl,hb⟩
   obtain ⟨hS1,hL1⟩:=hS.ext hb (I':=E.I) (fun _ _ h=>h) (fun _ _ h=>.inl h)
   exact ⟨_,_,rfl,hS1,hL1,hout _ _ _⟩
 ·rename_i hes
  split at hx
  case isFalse=>cases hx
  rename_i hz
  subst hz
  injection hx with hx
  subst hx
  simp only [Prod.mk.injEq] at h
  obtain ⟨rfl,rfl⟩:=h
  have hes':es ≠ []:=by simpa using hes
  refine ⟨hgd,fun N0 w0 I0 E w vs hS hvs hv=>?_⟩
  obtain ⟨a,rfl⟩:=vs_one hvs
  have hr:=hv 0 _ _ rfl rfl
  obtain ⟨A,cap,rfl⟩:∃ A cap,a = .slice A es.length cap:=by cases hr with | sl _ _ _ A cap=>exact ⟨A,cap,rfl⟩
  obtain ⟨vals,hvals,_,hat⟩:=rep_vals (P:=P) hr hsz
  have hAm:(∃ b off,A = some ⟨b,off,none⟩)∧es.length≤maxLen:=by
   cases hr with | sl _ _ _ _ _ u hcap hmax hA _ _ _ _ _ =>
   rcases hA with hA | ⟨b,off,hA,_⟩
   ·exact absurd hA hes'
   ·exact ⟨⟨b,off,hA⟩,Nat.le_trans hcap hmax⟩
  obtain ⟨⟨b,off,rfl⟩,hmax⟩:=hAm
  refine (hc b off es.length cap vals w hvals.1 hmax hp (fun j u hj=>(hat b off rfl j u hj).2) hvals.2.2.2.1).mono ?_
  rintro x w' ⟨v',rfl,hown,hnn,hb⟩
  obtain ⟨_,hL1⟩:=hS.ext hb (I':=E.I) (fun _ _ h=>h) (fun _ _ h=>.inl h)
  obtain ⟨E',h1,h2,h3⟩:=hS.take_new hb hown hnn rfl (hvals.le hL1)
  exact ⟨v',E',rfl,h1,h2,h3⟩
end
end Go.Abs
namespace Go.Proofs.Q24
open Go.RowKit Go.Abs Go.Lib
theorem info65:(PQ.info? 65).map (fun i=>(i.zero,i.size,i.bytes)) = some (some (.agg #[.string ⟨#[]⟩,.int .i64 0,.int .i64 0]),3,32):=by kernel_rfl
set_option maxHeartbeats 2000000 in
set_option maxRecDepth 100000 in
theorem clone57 (b off n c:Nat) (news:List Value) (w:World) (hl:news.length = n * 3) (hn:n≤maxLen) (hbig:n * 32≤140737488355328)
  (hc:∀ j u,news[j]? = some u→w.cell? ⟨b,off + j,none⟩ = some u) (h1:∀ u ∈ news,u.oneCell' = true) :
  Calls PQ 57 #[.slice (some ⟨b,off,none⟩) n c] w fun e w'=>∃ v',e = .returned v'∧w'.ownsRow w.heap.size 65 3 v' n news∧v' ≠ .slice none 0 0∧Below w.heap.size w w':=by
 obtain ⟨i0,hi0,hz0,hz1,hz2⟩:=info_parts info65
 have t22:=Tryz.underlying24
 have q22:∀ (w:World) (a:Option Addr) (n c n' c':Nat),(binOp .eql 24 (.slice a n c) (.slice none n' c')).run PQ w = .ok (.bool a.isNone) w:=fun w a n c n' c'=>Lib.run_eql_slice_nil w _ _ a n c n' c' Tryz.underlying24
 have u22:∀ w,Sem.run PQ (underlying 24) w = .ok (TypeDesc.slice 65) w:=run_underlying t22
 have A:Aside (∀ j u,news[j]? = some u→w.cell? ⟨b,off + j,none⟩ = some u):=hc
 clear hc
 go_enter Tryz.func57,Tryz.ntmps57
 go_wp2_with (at_builtin; refine wpList_append_own _ rfl _ _ 24 rfl w.heap.size 65 i0 _ 3 32 t22 hi0 hz0 hz1 hz2 rfl (by decide) _ _ _ rfl (World.ownsRow_made w #[] 0 (Nat.le_refl _) (Nat.zero_le _) (by simp)) ⟨b,off,none⟩ n c news rfl ?qc1 ?qc2 ?qc3 ?qc4 ?qc5 ?qc6 ?_)
 case qc1=>exact hl
 case qc2 =>
  intro j u hj
  rw [Addr.add_lit]
  exact Lib.cell?_alloc_some _ (A.out j u hj)
 case qc3=>exact h1
 case qc4=>rw [Nat.zero_add]; exact hn
 case qc5=>rw [Nat.zero_add]; exact hbig
 case qc6=>simp
 intro v' w1 hown hgrow hnil
 go_wp2
 go_ret
 refine ⟨v',rfl,by simpa using hown,hnil,?_⟩
 exact ((Below.refl _ w).alloc (Nat.le_refl _) _).grown hgrow (by simp) (by intro k hk; simp [Value.ownBlock] at hk; omega)
theorem cloneNil57 (n c:Nat) (w:World):Calls PQ 57 #[.slice none n c] w fun e w'=>e = .returned (.slice none 0 0)∧w' = w:=by
 have q22:∀ (w:World) (a:Option Addr) (n c n' c':Nat),(binOp .eql 24 (.slice a n c) (.slice none n' c')).run PQ w = .ok (.bool a.isNone) w:=fun w a n c n' c'=>Lib.run_eql_slice_nil w _ _ a n c n' c' Tryz.underlying24
 go_enter Tryz.func57,Tryz.ntmps57
 go_wp2
 go_ret
 exact ⟨rfl,rfl⟩
theorem cloneEmpty57 (a:Addr) (c:Nat) (w:World):Calls PQ 57 #[.slice (some a) 0 c] w fun e w'=>∃ A,e = .returned (.slice A 0 0)∧Below w.heap.size w w':=by
 have q22:∀ (w:World) (a:Option Addr) (n c n' c':Nat),(binOp .eql 24 (.slice a n c) (.slice none n' c')).run PQ w = .ok (.bool a.isNone) w:=fun w a n c n' c'=>Lib.run_eql_slice_nil w _ _ a n c n' c' Tryz.underlying24
 have u22:∀ w,Sem.run PQ (underlying 24) w = .ok (TypeDesc.slice 65) w:=run_underlying Tryz.underlying24
 go_enter Tryz.func57,Tryz.ntmps57
 go_wp2
 go_ret
 exact ⟨_,rfl,(Below.refl _ w).alloc (Nat.le_refl _) _⟩
end Go.Proofs.Q24
namespace Go.Abs
open Go.Proofs
theorem o57 (m:Int):ISpecOk PQ (GQ m) 57 (sClone 3 32):=oClone (goodQ (by kernel_rfl)) (by decide) Q24.clone57 Q24.cloneNil57 Q24.cloneEmpty57
end Go.Abs
namespace Go.Abs
open Go.Proofs
def libT:List (FuncId × Spec):=[(161,sIndexByte),(163,sIndexByteString),(133,sContains)]
theorem libT_ok (m:Int):CalleeOk PQ (GQ m) (tbl libT):=by
 refine tbl_cons (o_indexByte (fn:=Tryz.f161) (by kernel_rfl) (by kernel_rfl) (by kernel_rfl) (by kernel_rfl) (by kernel_rfl)) (tbl_cons (o_indexByteString (fn:=Tryz.f163) (by kernel_rfl) (by kernel_rfl) (by kernel_rfl) (by kernel_rfl) (by kernel_rfl)) (tbl_cons ?_ tbl_nil))
 exact o_contains (goodQ (by kernel_rfl)) (g0:=0) (m:=m) rfl fun s sub m w hs hm=>Tryz.strings_Contains s sub m w hs hm
def src0:List UInt8:=[111,102,32,117,115,101,114,32,116,97,107,101,32,97,44,32,98,32,115,101,101,100,32,55,32,107,101,101,112,32,53,48,48,32,97,116,32,34,117,34,32,49,48,32,50,48,44,32,34,118,34,32,53,32,57]
def tok0:List Tk:=[⟨1,[111,102],0⟩,⟨1,[117,115,101,114],3⟩,⟨1,[116,97,107,101],8⟩,⟨1,[97],13⟩,⟨5,[44],14⟩,⟨1,[98],16⟩,⟨1,[115,101,101,100],18⟩,⟨2,[55],23⟩,⟨1,[107,101,101,112],25⟩,⟨2,[53,48,48],30⟩,⟨1,[97,116],34⟩,⟨4,[117],37⟩,⟨2,[49,48],41⟩,⟨2,[50,48],44⟩,⟨5,[44],46⟩,⟨4,[118],48⟩,⟨2,[53],52⟩,⟨2,[57],54⟩,⟨6,[],55⟩]
set_option maxRecDepth 100000 in
theorem run36_0 (m:Int):(evs PQ (GQ m) (tbl libT) (fun _=>[]) 200).1 36 [bytesA src0] = some (.tup [.sl 3 (toksL tok0) (.tok 0),.sl 0 [] .nil,.int .i64 0],[(19,99)]):=by kernel_rfl
def src1:List UInt8:=[111,102,32,117,115,101,114,32,116,97,107,101,32,97,44,32,97,32,115,101,101,100,32,48,32,107,101,101,112,32,49,48,48,48]
def tok1:List Tk:=[⟨1,[111,102],0⟩,⟨1,[117,115,101,114],3⟩,⟨1,[116,97,107,101],8⟩,⟨1,[97],13⟩,⟨5,[44],14⟩,⟨1,[97],16⟩,⟨1,[115,101,101,100],18⟩,⟨2,[48],23⟩,⟨1,[107,101,101,112],25⟩,⟨2,[49,48,48,48],30⟩,⟨6,[],34⟩]
set_option maxRecDepth 100000 in
theorem run36_1 (m:Int):(evs PQ (GQ m) (tbl libT) (fun _=>[]) 200).1 36 [bytesA src1] = some (.tup [.sl 3 (toksL tok1) (.tok 0),.sl 0 [] .nil,.int .i64 0],[(11,99)]):=by kernel_rfl
def src2:List UInt8:=[111,102,32,117,115,101,114,32,116,97,107,101,32,97,32,115,101,101,100,32,48,32,107,101,101,112,32,49,48,48,48,32,97,116,32,34,117,34,32,49,48]
def tok2:List Tk:=[⟨1,[111,102],0⟩,⟨1,[117,115,101,114],3⟩,⟨1,[116,97,107,101],8⟩,⟨1,[97],13⟩,⟨1,[115,101,101,100],15⟩,⟨2,[48],20⟩,⟨1,[107,101,101,112],22⟩,⟨2,[49,48,48,48],27⟩,⟨1,[97,116],32⟩,⟨4,[117],35⟩,⟨2,[49,48],39⟩,⟨6,[],41⟩]
set_option maxRecDepth 100000 in
theorem run36_2 (m:Int):(evs PQ (GQ m) (tbl libT) (fun _=>[]) 200).1 36 [bytesA src2] = some (.tup [.sl 3 (toksL tok2) (.tok 0),.sl 0 [] .nil,.int .i64 0],[(12,99)]):=by kernel_rfl
def src3:List UInt8:=[111,102,32,105,102,32,116,97,107,101,32,97]
def tok3:List Tk:=[⟨1,[111,102],0⟩,⟨1,[105,102],3⟩,⟨1,[116,97,107,101],6⟩,⟨1,[97],11⟩,⟨6,[],12⟩]
set_option maxRecDepth 100000 in
theorem run36_3 (m:Int):(evs PQ (GQ m) (tbl libT) (fun _=>[]) 200).1 36 [bytesA src3] = some (.tup [.sl 3 (toksL tok3) (.tok 0),.sl 0 [] .nil,.int .i64 0],[(5,99)]):=by kernel_rfl
end Go.Abs
namespace Go.Abs
open Go.RowKit
theorem SpecOk.own {P:Program} {G:Glob} {f:FuncId} {s s':Spec} (hs:SpecOk P G f s) (h:∀ args r',s' args = some r'→∃ r,s args = some r∧RetLax r.1 r'∧∀ L,RetLax (adopt L r.1) r'):SpecOk P G f s':=by
 intro g args r' lv hr
 by_cases e:g = f
 ·subst e
  simp only [if_true] at hr
  obtain ⟨r,h1,h2,h3⟩:=h args _ hr
  have hlv:lv = []:=h2.none
  subst hlv
  intro E w vs hI hG hn hv hcl
  refine (hs g args r.1 r.2 (by simp only [if_true]; exact h1) E w vs hI hG hn hv hcl).mono ?_
  rintro e w' ⟨v,he,I',k1,k2,k3,k4⟩
  refine ⟨v,he,I',k1,k2,k3,.inl ⟨rfl,fun B K=>?_⟩⟩
  rcases k4 with ⟨_,k4⟩ | ⟨n,e',hv',sz,xs,_,_,_,_,hrep⟩
  ·exact h2.lax.rep (k4 B K)
  ·exact rep_closed2 ((h3 0).lax.rep (hrep B (fun _ _ _=>True) 0 trivial)) h2.closed B K
 ·simp only [e,if_false] at hr
  cases hr
end Go.Abs
namespace Go.Abs
open Go.Proofs
theorem evs_spec {P:Program} {G:Glob} {R0:Callee} {hint:FuncId→List Bool} (hm:P.follows .mixedOrders = true) (h0:CalleeOk P G R0) (n:Nat) (f:FuncId):SpecOk P G f ((evs P G R0 hint n).1 f):=by
 intro g args r lv h
 by_cases e:g = f
 ·subst e
  simp only [if_true] at h
  exact (evs_ok hm h0 hint n).1 g args r lv h
 ·simp only [e,if_false] at h
  cases h
def exT (bs:List UInt8):Option (List Tk):=if bs = src0 then some tok0 else if bs = src1 then some tok1 else if bs = src2 then some tok2 else if bs = src3 then some tok3 else none
def s36x:Spec:=fun args=>match args with
 | [.sl 1 es .no]=>(unBytes es).bind fun bs=>(exT bs).map fun ts=>s36v ts [] 0
 | _=>none
def s11x:Spec:=fun args=>match args with
 | [.sl 1 es .no]=>(unBytes es).bind fun bs=>(exT bs).map fun ts=>(resT ts [] 0,[])
 | _=>none
theorem exT_inv {bs:List UInt8} {ts:List Tk} (h:exT bs = some ts):(bs = src0∧ts = tok0)∨(bs = src1∧ts = tok1)∨(bs = src2∧ts = tok2)∨(bs = src3∧ts = tok3):=by
 unfold exT at h
 split at h
 ·rename_i e; injection h with h; exact .inl ⟨e,h.symm⟩
 split at h
 ·rename_i e; injection h with h; exact .inr (.inl ⟨e,h.symm⟩)
 split at h
 ·rename_i e; injection h with h; exact .inr (.inr (.inl ⟨e,h.symm⟩))
 split at h
 ·rename_i e; injection h with h; exact .inr (.inr (.inr ⟨e,h.symm⟩))
 ·cases h
theorem good_ex {bs:List UInt8} {ts:List Tk} (h:exT bs = some ts):GoodT ts:=by
 rcases exT_inv h with ⟨_,rfl⟩ | ⟨_,rfl⟩ | ⟨_,rfl⟩ | ⟨_,rfl⟩
 ·exact ⟨⟨tok0.dropLast,tok0.getLast (by decide),rfl,rfl⟩,by decide,by decide⟩
 ·exact ⟨⟨tok1.dropLast,tok1.getLast (by decide),rfl,rfl⟩,by decide,by decide⟩
 ·exact ⟨⟨tok2.dropLast,tok2.getLast (by decide),rfl,rfl⟩,by decide,by decide⟩
 ·exact ⟨⟨tok3.dropLast,tok3.getLast (by decide),rfl,rfl⟩,by decide,by decide⟩
theorem ex_inv {args:List AV} {r:AV × List (Nat × TypeId)} {k:List Tk→AV × List (Nat × TypeId)} (h:(match args with
 | [.sl 1 es .no]=>(unBytes es).bind fun bs=>(exT bs).map k
 | _=>none) = some r):∃ bs ts,args = [bytesA bs]∧exT bs = some ts∧r = k ts:=by
 split at h
 case h_2=>cases h
 rename_i es
 cases hb:unBytes es with
 | none=>rw [hb] at h; cases h
 | some bs =>
  rw [hb] at h
  simp only [Option.bind_some] at h
  cases ht:exT bs with
  | none=>rw [ht] at h; cases h
  | some ts =>
   rw [ht] at h
   simp only [Option.map_some,Option.some.injEq] at h
   exact ⟨bs,ts,by rw [unBytes_some hb],ht,h.symm⟩
theorem s36x_at {bs:List UInt8} {ts:List Tk} (h:exT bs = some ts):s36x [bytesA bs] = some (s36v ts [] 0):=by
 simp only [s36x,unBytes_mk,Option.bind_some,h,Option.map_some]
theorem toks_lax (ts:List Tk) (L:Nat):RetLax (.tup [.sl 3 (toksL ts) (.tok L),.sl 0 [] .nil,.int .i64 0]) (s36v ts [] 0):=by
 refine ⟨?_,?_,rfl⟩
 ·exact ⟨⟨rfl,rfl,.inl rfl⟩,⟨rfl,rfl,.inr rfl⟩,rfl,trivial⟩
 ·rfl
theorem o36 (m:Int):SpecOk PQ (GQ m) 36 s36x:=SpecOk.own (evs_spec mixedQ (libT_ok m) 200 36) fun args r h=>by
 obtain ⟨bs,ts,rfl,ht,rfl⟩:=ex_inv h
 rcases exT_inv ht with ⟨rfl,rfl⟩ | ⟨rfl,rfl⟩ | ⟨rfl,rfl⟩ | ⟨rfl,rfl⟩
 ·exact ⟨_,run36_0 m,toks_lax _ _,fun L=>toks_lax _ L⟩
 ·exact ⟨_,run36_1 m,toks_lax _ _,fun L=>toks_lax _ L⟩
 ·exact ⟨_,run36_2 m,toks_lax _ _,fun L=>toks_lax _ L⟩
 ·exact ⟨_,run36_3 m,toks_lax _ _,fun L=>toks_lax _ L⟩
theorem o11x (m:Int):SpecOk PQ (GQ m) 11 s11x:=tlax_of' mixedQ fun args r h=>by
 obtain ⟨bs,ts,rfl,ht,rfl⟩:=ex_inv h
 have hR:=tbl_cons (o36 m) (tbl_cons (o46 m) tbl_nil)
 exact ⟨_,_,_,_,_,_,hR,itbl_nil,inlW_ok mixedQ hR itbl_nil (J1_ok m),p11 m s36x bs ts [] 0 (s36x_at ht) fun _ _ _=>good_ex ht⟩
noncomputable def evI (m:Int) (f:FuncId):ISpec:=fun args S=>((evs PQ (GQ m) (tbl libT) (fun _=>[]) 100).2 f args S).map fun r=>(True,r.1,r.2)
theorem evI_ok (m:Int) (f:FuncId):ISpecOk PQ (GQ m) f (evI m f):=by
 intro g args S r S' h
 simp only [lowC] at h
 by_cases e:g = f
 ·subst e
  simp only [if_true] at h
  split at h
  case h_2=>cases h
  rename_i y hy
  split at h
  case isFalse=>cases h
  injection h with h
  unfold evI at hy
  cases hx:(evs PQ (GQ m) (tbl libT) (fun _=>[]) 100).2 g args S with
  | none=>rw [hx] at hy; cases hy
  | some x =>
   rw [hx] at hy
   injection hy with hy
   subst hy
   exact (evs_ok mixedQ (libT_ok m) (fun _=>[]) 100).2 g args S r S' (by rw [hx,← h])
 ·simp only [if_neg e] at h
  cases h
def lv0:List Lb:=[⟨[118],5,9⟩,⟨[117],10,20⟩,⟨[117],9,30⟩,⟨[118],5,9⟩]
def lvS:List Lb:=[⟨[117],9,30⟩,⟨[117],10,20⟩,⟨[118],5,9⟩]
def s21x:Spec:=fun args=>match args with
 | [.sl sz es _]=>if sz = 3∧unL unLb es = some lv0 then some (.sl 3 (lbsL lvS) .no,[]) else none
 | _=>none
theorem w21x (m:Int) (r:AV):(laxW PQ (GQ m) X24 (tbl []) (itbl [(57,sClone 3 32),(58,evI m 58),(60,evI m 60)]) nAn [] 21 [.sl 3 (lbsL lv0) .no] (r,[])) =
(Nat.le 128 140737488355328∧True∧True∧(3:Nat) = (3:Nat)∧RetLax (AV.sl 3 [AV.agg [AV.str [117],I6 9,I6 30],AV.agg [AV.str [117],I6 10,I6 20],AV.agg [AV.str [118],I6 5,I6 9]] Own.no) (r,[])):=by kernel_rfl
end Go.Abs
namespace Go.Abs
open Go.Proofs Go.RowKit
def q14a:Oper:={ dst:=some 53,op:=.call { callee:=.value (.func 53),args:=#[.tmp 3],argTypes:=#[107] },type:=9,pos := "request.go:156",after:=#[],guard:=none }
def q14b:Oper:={ dst:=some 2,op:=.assign (.tmp 53),type:=9,pos := "request.go:156",after:=#[{ on:=0,ground:=.data },{ on:=0,ground:=.chain },{ on:=0,ground:=.phase }],guard:=none }
def b14:Code:=.seq (.region 13 #[q14a,q14b] false) .ret
theorem f14_at:PQ.funcs[14]? = some Tryz.f14:=by kernel_rfl
noncomputable def c14:Code:=(Tryz.f14.body).getD .skip
theorem f14_body:Tryz.f14.body = some c14:=by kernel_rfl
theorem f14_tail:codeAt 13 c14 = some b14:=by kernel_rfl
theorem f14_good:goodFn PQ 14:=goodQ (by kernel_rfl)
theorem f53_good:goodFn PQ 53:=goodQ (by kernel_rfl)
theorem f14_res:Tryz.f14.results = #[.tmp 2]:=by kernel_rfl
theorem tS_ok (m:Int):CalleeOk PQ (GQ m) (tbl tS):=tbl_cons (o46 m) (tbl_cons (o51 m) (tbl_cons (o52 m) tbl_nil))
theorem o14 (m:Int):SpecOk PQ (GQ m) 14 s14:=by
 refine tailQ_of (X:=XS) (R:=tbl tS) (C:=itbl [(50,s50)]) mixedQ (tS_ok m) (itbl_cons (o50 m) itbl_nil) f14_at f14_body f14_good fun args r h=>?_
 unfold s14 at h
 split at h
 case h_2=>cases h
 split at h
 case h_2=>cases h
 rename_i a0 x hx
 injection h with h
 subst h
 obtain rfl:=unRqN_inv _ _ hx
 refine ⟨[4,5,10],a14 x,[],13,_,rfl,p14 m x,fun wb Eb b T S E w a hb hH hS hL hT hd=>?_⟩
 rw [f14_tail] at hb
 injection hb with hb
 subst hb
 obtain ⟨hp,⟨b0,t,hS0,ht,hne⟩,hn54⟩:=hH
 have hr3:=hT.get 3
 rw [hp] at hr3
 obtain ⟨blk,hv3,hB⟩:=rep_ptr hr3
 have hb1:S.boxes[1]? = some (some (typB 107 [.opq,.sl 1 (bytesL t) (.tok 0)])):=by rw [hS0]; rfl
 have hl1:S.live = [(t.length,5)]:=by rw [hS0]
 have hcall:=str_walk hS hb1 hB hl1 hne
 have hsz:a.tmps.size = 54:=by rw [← hT.1,hn54]
 refine wp_seq (wp_region_list ?_)
 have hrun:(execOp a.eval q14a).run PQ w = .ok (.enter 53 #[a.tmps.getD 3 undef]) w:=by
  simp [execOp,q14a,resolve,Act.eval,Deferred.ofValue,invoke,run_callFunc f53_good]
 refine .inl ?_
 unfold Oper.wp
 rw [hrun,Oper.upon_enter,hv3]
 refine hcall.mono fun e w' ⟨he,hbel,hsize⟩=>?_
 subst he
 refine .inl ?_
 unfold Oper.wp
 have hrun2:(execOp (a.put (some 53) (.string ⟨t.toArray⟩)).eval q14b).run PQ w' = .ok (.value ((a.put (some 53) (.string ⟨t.toArray⟩)).eval (.tmp 53))) w':=rfl
 rw [show q14a.dst = some 53 from rfl,hrun2,Oper.upon_value]
 refine wp_ret ?_
 refine ⟨by simpa [Act.put,q14b] using hd,_,results_tmp f14_res _ _ _,_,rfl,?_⟩
 subst ht
 have hval:((a.put (some 53) (.string ⟨(fmtL x).toArray⟩)).put (some 2) ((a.put (some 53) (.string ⟨(fmtL x).toArray⟩)).eval (.tmp 53))).tmps.getD 2 undef = .string ⟨(fmtL x).toArray⟩:=by
  simp [Act.put,Act.eval,hsz]
 rw [show q14b.dst = some 2 from rfl,hval]
 exact res_below hbel.below fun B K=>.str _ _ rfl
end Go.Abs
namespace Go.Abs
open Go.Proofs
theorem p21x (m:Int):LaxOk PQ (GQ m) X24 (tbl []) (itbl [(57,sClone 3 32),(58,evI m 58),(60,evI m 60)]) nAn [] 21 [.sl 3 (lbsL lv0) .no] (.sl 3 (lbsL lvS) .no,[]):=by
 constructor
 rw [w21x]; unfold I6
 exact ⟨Nat.le_of_ble_eq_true rfl,trivial,trivial,rfl,⟨rfl,rfl,.inl rfl⟩,rfl,rfl⟩
theorem o21x (m:Int):SpecOk PQ (GQ m) 21 s21x:=lax_ofW (X:=X24) (m:=[]) [3] mixedQ tbl_nil (itbl_cons (o57 m) (itbl_cons (evI_ok m 58) (itbl_cons (evI_ok m 60) itbl_nil))) fun args r h=>by
 unfold s21x at h
 split at h
 case h_2=>cases h
 split at h
 case isFalse=>cases h
 rename_i hc
 obtain ⟨rfl,hu⟩:=hc
 injection h with h
 subst h
 obtain rfl:=unL_inv unLb_inv hu
 exact ⟨nAn,p21x m⟩
theorem SpecOk.sub {P:Program} {G:Glob} {f:FuncId} {s s':Spec} (hs:SpecOk P G f s) (h:∀ args r,s' args = some r→s args = some r):SpecOk P G f s':=by
 intro g args r lv hr
 by_cases e:g = f
 ·subst e
  simp only [if_true] at hr
  exact hs g args r lv (by simp only [if_true]; exact h _ _ hr)
 ·simp only [e,if_false] at hr
  cases hr
def s11y:Spec:=fun args=>match args with
 | [.sl 1 (e :: es) _]=>s11x [.sl 1 (e :: es) .no]
 | _=>none
theorem o11y (m:Int):SpecOk PQ (GQ m) 11 s11y:=spec_wk [1] fun args r h=>(o11x m).sub fun a r' h'=>by
 split at h'
 ·rename_i e
  subst e
  injection h' with h'
  subst h'
  unfold s11y at h
  split at h
  case h_2=>cases h
  exact h
 ·cases h'
def s14y:Spec:=fun args=>match args with
 | [.agg [.str e,.sl 1 (f :: fs) _,.sl 3 (l :: ls) _,s,p]]=>s14 [.agg [.str e,.sl 1 (f :: fs) .no,.sl 3 (l :: ls) .no,s,p]]
 | _=>none
def asI (R:Callee) (f:FuncId):ISpec:=fun args S=>(callA R S f args).map fun x=>(True,x.1,x.2)
theorem asI_ok {P:Program} {G:Glob} {R:Callee} (hR:CalleeOk P G R) {f:FuncId} (hg:goodFn P f):ISpecOk P G f (asI R f):=by
 intro g args S r S' h
 simp only [lowC] at h
 by_cases e:g = f
 ·subst e
  simp only [if_true] at h
  split at h
  case h_2=>cases h
  rename_i y hy
  split at h
  case isFalse=>cases h
  injection h with h
  unfold asI at hy
  cases hx:callA R S g args with
  | none=>rw [hx] at hy; cases hy
  | some x =>
   rw [hx] at hy
   injection hy with hy
   subst hy
   obtain ⟨x1,x2⟩:=x
   injection h with e1 e2
   simp only at e1 e2
   subst e1; subst e2
   refine ⟨hg,fun N0 w0 I0 E w vs hS hn hv=>?_⟩
   rcases callA_wp hR hS hn hv hx with ⟨_,hc⟩ | ⟨v,w',hrun,_⟩
   ·exact hc
   ·rw [run_callFunc hg] at hrun; cases hrun
 ·simp only [if_neg e] at h
  cases h
def tX:List (FuncId × Spec):=[(11,s11y),(14,s14y),(21,s21x)]
noncomputable def RX (m:Int):Callee:=(evs PQ (GQ m) (tbl tX) (fun _=>[]) 60).1
noncomputable def CX (m:Int):CCallee:=itbl [(11,asI (RX m) 11),(13,asI (RX m) 13),(14,asI (RX m) 14),(21,asI (RX m) 21),(22,asI (RX m) 22)]
theorem w16 (m:Int) (r:AV):(tqW PQ idMk (GQ m) X24 (tbl []) (CX m) [4,5,6] nAn [] 99 (fun _ _=>False) 16 [] (fun r0 _=>RetLax r0 (r,[]))) =
((55:Nat)≤(70368744177664:Nat)∧True∧True∧True∧True∧True∧(false = true→RetLax (AV.bool false) (r,[]))∧(false = false→(false = true→RetLax (AV.bool false) (r,[]))∧(false = false→True∧(true = true→True∧(false = true→RetLax (AV.bool false) (r,[]))∧(false = false→(false = true→RetLax (AV.bool false) (r,[]))∧(false = false→(false = true→RetLax (AV.bool false) (r,[]))∧(false = false→(false = true→RetLax (AV.bool false) (r,[]))∧(false = false→(false = true→RetLax (AV.bool false) (r,[]))∧(false = false→(false = true→RetLax (AV.bool false) (r,[]))∧(false = false→(false = true→RetLax (AV.bool false) (r,[]))∧(false = false→True∧(true = true→RetLax (AV.bool true) (r,[]))∧(true = false→RetLax (AV.bool false) (r,[]))))))))))∧(true = false→RetLax (AV.bool false) (r,[]))))):=by kernel_rfl
theorem rep_agg_wk {E:Env} {w:World} {e f l s p:AV} {fs ls:List AV} {o1 o2:Own} {v:Value} (h:Rep E w (.agg [e,.sl 1 (f :: fs) o1,.sl 3 (l :: ls) o2,s,p]) v):Rep E w (.agg [e,.sl 1 (f :: fs) .no,.sl 3 (l :: ls) .no,s,p]) v:=by
 cases h with | agg _ vs hn h1 h =>
 refine .agg _ vs hn h1 fun i c v hc hv=>?_
 match i,hc with
 | 0,hc=>exact h 0 c v hc hv
 | 1,hc=>simp at hc; subst hc; exact rep_wk (z:=1) (h 1 _ v rfl hv)
 | 2,hc=>simp at hc; subst hc; exact rep_wk (z:=3) (h 2 _ v rfl hv)
 | 3,hc=>exact h 3 c v hc hv
 | 4,hc=>exact h 4 c v hc hv
 | i + 5,hc=>simp at hc
theorem o14y (m:Int):SpecOk PQ (GQ m) 14 s14y:=by
 intro g args r lv hr
 by_cases e:g = 14
 ·subst e
  simp only [if_true] at hr
  unfold s14y at hr
  split at hr
  case h_2=>cases hr
  rename_i e f fs o1 l ls o2 s p
  intro E w vs hI hG hn hv hcl
  refine o14 m 14 [.agg [.str e,.sl 1 (f :: fs) .no,.sl 3 (l :: ls) .no,s,p]] r lv (by simp only [if_true]; exact hr) E w vs hI hG hn (fun i c v hi hv'=>?_) fun c hc=>?_
  ·match i,hi with
   | 0,hi=>simp at hi; subst hi; exact rep_agg_wk (hv 0 _ v rfl hv')
   | i + 1,hi=>simp at hi
  ·simp at hc
   subst hc
   have:=hcl _ List.mem_cons_self
   simp [AV.closed1,AV.closed] at this ⊢
   exact ⟨this.2.2.1,this.2.2.2⟩
 ·simp only [e,if_false] at hr
  cases hr
theorem tX_ok (m:Int):CalleeOk PQ (GQ m) (tbl tX):=tbl_cons (o11y m) (tbl_cons (o14y m) (tbl_cons (o21x m) tbl_nil))
theorem RX_ok (m:Int):CalleeOk PQ (GQ m) (RX m):=(evs_ok mixedQ (tX_ok m) (fun _=>[]) 60).1
theorem CX_ok (m:Int):ICalleeOk PQ (GQ m) (lowC (CX m)):=
 itbl_cons (asI_ok (RX_ok m) (goodQ (by kernel_rfl))) (itbl_cons (asI_ok (RX_ok m) (goodQ (by kernel_rfl))) (itbl_cons (asI_ok (RX_ok m) (goodQ (by kernel_rfl))) (itbl_cons (asI_ok (RX_ok m) (goodQ (by kernel_rfl))) (itbl_cons (asI_ok (RX_ok m) (goodQ (by kernel_rfl))) itbl_nil))))
theorem p16 (m:Int):TqOk PQ (GQ m) X24 (tbl []) (CX m) [4,5,6] nAn [] 99 (fun _ _=>False) 16 [] (.bool true):=by
 constructor
 rw [w16]
 have ht:RetLax (AV.bool true) (.bool true,[]):=⟨rfl,rfl,rfl⟩
 simp only [Bool.false_eq_true,false_implies,true_implies,Bool.true_eq_false,and_true,ht]
 decide
theorem f16_at:PQ.funcs[16]? = some Tryz.f16:=by kernel_rfl
noncomputable def c16:Code:=(Tryz.f16.body).getD .skip
theorem f16_body:Tryz.f16.body = some c16:=by kernel_rfl
theorem f16_tail:codeAt 99 c16 = none:=by kernel_rfl
theorem o16 (m:Int):SpecOk PQ (GQ m) 16 sTrue:=by
 refine tailQ_of (X:=X24) (R:=tbl []) (C:=CX m) mixedQ tbl_nil (CX_ok m) f16_at f16_body (goodQ (by kernel_rfl)) fun args r h=>?_
 unfold sTrue at h
 split at h
 case h_2=>cases h
 injection h with h
 subst h
 refine ⟨_,_,_,99,_,rfl,p16 m,fun wb Eb b T S E w a hb hH hS hL hT hd=>?_⟩
 rw [f16_tail] at hb
 cases hb
theorem run15 {x:Rq} (hk:keysOk x.labels = true):s15 [rqA x] = some (.str (fmtL x),[]):=by
 simp only [s15,unRqN_ok,hk,if_true]
theorem run14' (x:Rq):s14 [rqA x] = some (.str (fmtL x),[]):=by simp only [s14,unRqN_ok]
theorem p3 (m:Int) (bs:List UInt8) (x:Rq) (hk:keysOk x.labels = true):PureOk PQ (GQ m) XT (tbl t3) (itbl []) (a3 x) [] 3 [.sl 1 (bytesL bs) .no,rqA x] (.bool true,[]):=by
 constructor
 rw [w3]; unfold w3c1 I6
 refine ⟨_,⟨run10 x⟩,fun b1=>⟨⟨fun h=>⟨by omega,⟨by omega,?_⟩,.inl rfl,bs.take 2000,⟨?_⟩,⟨rfl⟩,trivial,trivial⟩,fun h=>⟨bs,⟨rfl⟩,⟨rfl⟩,trivial,trivial⟩⟩,fun y _ _=>?_⟩,fun _=>⟨rfl⟩⟩
 ·have:=of_decide_eq_true h
  omega
 ·rw [List.drop_zero,show bytesL (bs.take 2000) = (bytesL bs).take 2000 from List.map_take ..]
 ·obtain ⟨f1,f2⟩:=prB_few y
  refine ⟨_,_,_,_,_,_,_,⟨runP y⟩,_,_,_,_,_,_,_,⟨runP y⟩,_,⟨run13 (x:=(prB y).r) (y:=(prB y).r) (by omega) (by omega)⟩,fun _=>⟨fun _=>⟨fun _=>⟨_,⟨run14' x⟩,_,⟨run15 hk⟩,fun _=>⟨_,⟨rfl⟩,fun _=>⟨rfl⟩,nofun⟩,fun h=>?_⟩,fun h=>?_⟩,fun h=>?_⟩,fun h=>?_⟩
  ·simp at h
  ·simp at h
  ·simp at h
  ·simp at h
def sLaw3:Spec:=fun args=>match args with
 | [.sl 1 es .no,b]=>match unBytes es,unRqN b with
  | some _,some r=>if keysOk r.labels = true then some (.bool true,[]) else none
  | _,_=>none
 | _=>none
theorem oLaw3 (m:Int):SpecOk PQ (GQ m) 3 sLaw3:=spec_of (X:=XT) (m:=[]) mixedQ (tbl_cons (o10 m) (tbl_cons (o11g m) (tbl_cons (o12g m) (tbl_cons (o13 m) (tbl_cons (o14 m) (tbl_cons (o15 m) (tbl_cons (o16 m) tbl_nil))))))) itbl_nil fun args r h=>by
 unfold sLaw3 at h
 split at h
 case h_2=>cases h
 split at h
 case h_2=>cases h
 rename_i h1 h2
 split at h
 case isFalse=>cases h
 rename_i hk
 injection h with h; subst h
 rw [unBytes_some h1,unRqN_inv _ _ h2]
 exact ⟨_,p3 m _ _ hk⟩
theorem sLaw3_true (bs:List UInt8) (r:Rq) (hk:keysOk r.labels = true):sLaw3 [.sl 1 (bytesL bs) .no,rqA r] = some (.bool true,[]):=by
 simp only [sLaw3,unBytes_mk,unRqN_ok,hk,if_true]
end Go.Abs
namespace Go.Abs
open Go.ChangeShapes Go.WideShapes Go.ChangeAt Go.RowKit Go.Deep Go.ChangeMaps
open Go.Proofs Go.Proofs.YtfcdefnkhkijaaaGreatDoor
section
variable {H : Type} {enc : TypeId × Value → H} {P : Program} {W : World}
def ElemR (P:Program) (W:World) (enc:TypeId × Value→H) (e:TypeId) {α:Type} (g:α→AV) (Q:α→DataW H→Prop):Prop:=
 ∀ n cs x,DataW.trod enc P W 0 (fun _=>true) true n e cs = some x→∃ a:α,Q a x.1∧∀ (j:Nat) (c:AV) (u:Value),(g a).cells[j]? = some c→cs[j]? = some u→Rep (oldE W) W c u∧u.oneCell' = true
theorem open_slR {t e:TypeId} {sz:Nat} {α:Type} [Inhabited α] {g:α→AV} {Q:α→DataW H→Prop} (ht:P.underlying t = some (.slice e)) (hc:P.cellsOf e = sz) (hsz:0 < sz) (hg:∀ a,(g a).cells.length = sz∧(g a).closed1 = true) (hel:ElemR P W enc e g Q)
  {v:Value} {d:DataW H} {ps:List MemPlace} (hv:∃ A len cap,v = .slice A len cap) (h:DataW.Trod enc P W 0 (fun _=>true) true t v d ps) :
  ∃ l:List α,Rep (oldE W) W (.sl sz (l.map g) .no) v∧(l = []∨∃ elems spare,d = .slice elems spare∧elems.length = l.length∧∀ (i:Nat) a x,l[i]? = some a→elems[i]? = some x→Q a x):=by
 obtain ⟨a,len,cap,rfl⟩:=hv
 obtain ⟨fuel,h⟩:=h
 rcases open_slice ht h with ⟨hcs,_⟩ | ⟨a',len',cap',m,n,D,Pl,hcs,hb,hl,hmx,hm,hx,hels⟩
 ·simp [Value.cells] at hcs
  obtain ⟨rfl,rfl,rfl⟩:=hcs
  exact ⟨[],.sl sz [] .no none 0 (fun _ _=>.bool false) (by simp) (by simp [maxLen]) (.inl rfl) (by simp) (by simp) trivial (by simp) (fun _ _=>rfl),.inl rfl⟩
 ·simp [Value.cells] at hcs
  obtain ⟨rfl,rfl,rfl⟩:=hcs
  have hm':m = cap:=by simpa using hm
  have hch:∀ i,i < len→∃ x:α × List Value,x.2.length = sz∧(∀ j,j < sz→W.cell? (a'.add (i * sz + j)) = x.2[j]?)∧Q x.1 (D i)∧∀ (j:Nat) (c:AV) (u:Value),(g x.1).cells[j]? = some c→x.2[j]? = some u→Rep (oldE W) W c u∧u.oneCell' = true:=fun i hi=>by
   obtain ⟨cs,hcs,ht'⟩:=hels i (by omega)
   rw [hc] at hcs
   obtain ⟨_,hlen,hat⟩:=World.cells?_some hcs
   obtain ⟨x,hq,hx⟩:=hel n cs _ ht'
   refine ⟨(x,cs),hlen,fun j hj=>?_,hq,hx⟩
   have:=hat j hj
   rw [Go.Deep.add_add] at this
   exact this
  obtain ⟨f,hf⟩:=choose_lt hch
  refine ⟨(List.range len).map fun i=>(f i).1,?_,.inr ?_⟩
  ·have hlen:((List.range len).map fun i=>(f i).1).length = len:=by simp
   have hln:(((List.range len).map fun i=>(f i).1).map g).length = len:=by simp
   have hget:∀ (i:Nat) (e':AV),(((List.range len).map fun i=>(f i).1).map g)[i]? = some e'→i < len∧e' = g (f i).1:=fun i e' h=>by
    have hi:i < len:=by
     have:=(List.getElem?_eq_some_iff.1 h).1
     simpa using this
    refine ⟨hi,?_⟩
    simp [List.getElem?_range hi] at h
    exact h.symm
   let u:Nat→Nat→Value:=fun i j=>if i < len∧j < sz then ((f i).2[j]?).getD (.bool false) else .bool false
   have hu:∀ i j,i < len→j < sz→(f i).2[j]? = some (u i j):=fun i j hi hj=>by
    have h2:j < (f i).2.length:=by rw [(hf i hi).1]; exact hj
    simp only [u,hi,hj,and_self,if_true,List.getElem?_eq_getElem h2,Option.getD_some]
   have key:=Rep.sl (E:=oldE W) (w:=W) sz (((List.range len).map fun i=>(f i).1).map g) .no (some a') cap u (by rw [hln]; exact hl) hmx ?_ ?_ ?_ trivial ?_ ?_
   ·rw [hln] at key; exact key
   ·rcases Nat.eq_zero_or_pos len with h0 | h0
    ·left; subst h0; rfl
    ·right
     have h1:=(hf 0 h0).2.1 0 hsz
     rw [hu 0 0 h0 hsz] at h1
     have hadd:a'.add (0 * sz + 0) = a':=by unfold Addr.add; simp
     rw [hadd] at h1
     have hp:=addr_plain h1
     refine ⟨a'.block,a'.off,by rw [← hp],fun i e' j c hi hj=>?_⟩
     obtain ⟨hlt,rfl⟩:=hget i e' hi
     have hjs:j < sz:=by
      have:=(List.getElem?_eq_some_iff.1 hj).1
      rw [(hg _).1] at this; exact this
     have h2:=(hf i hlt).2.1 j hjs
     rw [hu i j hlt hjs,hp,addp] at h2
     have e:a'.off + i * sz + j = a'.off + (i * sz + j):=by omega
     refine ⟨cell_lt h1,by rw [e]; exact h2⟩
   ·intro e' he
    obtain ⟨x,hx,rfl⟩:=List.mem_map.1 he
    exact (hg x).1
   ·intro e' he
    obtain ⟨x,hx,rfl⟩:=List.mem_map.1 he
    exact (hg x).2
   ·intro i e' j c hi hj
    obtain ⟨hlt,rfl⟩:=hget i e' hi
    have hjs:j < sz:=by
     have:=(List.getElem?_eq_some_iff.1 hj).1
     rw [(hg _).1] at this; exact this
    exact ((hf i hlt).2.2.2 j c (u i j) hj (hu i j hlt hjs)).1
   ·intro i j
    by_cases hij:i < len∧j < sz
    ·have hjs:j < (g (f i).1).cells.length:=by rw [(hg _).1]; exact hij.2
     exact ((hf i hij.1).2.2.2 j _ (u i j) (List.getElem?_eq_getElem hjs) (hu i j hij.1 hij.2)).2
    ·simp only [u,if_neg hij]; rfl
  ·have hx1:=congrArg Prod.fst hx
   simp only at hx1
   refine ⟨_,_,hx1,by simp,fun i a x hi hxi=>?_⟩
   have hlt:i < len:=by
    have:=(List.getElem?_eq_some_iff.1 hi).1
    simpa using this
   simp [List.getElem?_range hlt] at hi hxi
   subst hi; subst hxi
   exact (hf i hlt).2.2.1
/-! cells that read so -/
def CellsAre (W:World) (l:List AV) (cs:List Value):Prop:=
 l.length = cs.length∧∀ (j:Nat) (c:AV) (u:Value),l[j]? = some c→cs[j]? = some u→Rep (oldE W) W c u∧u.oneCell' = true
theorem CellsAre.one {c:AV} {u:Value} (h:Rep (oldE W) W c u) (h1:u.oneCell' = true):CellsAre W [c] [u]:=⟨rfl,fun j c' u' hc hu=>by
 match j,hc,hu with
 | 0,hc,hu=>simp at hc hu; subst hc; subst hu; exact ⟨h,h1⟩⟩
theorem CellsAre.append {l r:List AV} {cs ds:List Value} (h:CellsAre W l cs) (k:CellsAre W r ds):CellsAre W (l ++ r) (cs ++ ds):=by
 refine ⟨by simp [h.1,k.1],fun j c u hc hu=>?_⟩
 rcases Nat.lt_or_ge j l.length with hj | hj
 ·rw [List.getElem?_append_left hj] at hc
  rw [List.getElem?_append_left (by rw [← h.1]; exact hj)] at hu
  exact h.2 j c u hc hu
 ·rw [List.getElem?_append_right hj] at hc
  rw [List.getElem?_append_right (by rw [← h.1]; exact hj),← h.1] at hu
  exact k.2 _ c u hc hu
theorem CellsAre.next {l r:List AV} {cs:List Value} {o s p:Nat} (h:CellsAre W l ((cs.drop o).take s)) (hp:p = o + s) (k:CellsAre W r (cs.drop p)):CellsAre W (l ++ r) (cs.drop o):=by
 subst hp
 have:=h.append k
 rwa [← List.drop_drop,List.take_append_drop] at this
theorem CellsAre.last {l:List AV} {cs:List Value} {o s:Nat} (h:CellsAre W l ((cs.drop o).take s)) (hs:cs.length = o + s):CellsAre W l (cs.drop o):=by
 rwa [List.take_of_length_le (by rw [List.length_drop]; omega)] at h
def ReadsAs (P:Program) (W:World) (enc:TypeId × Value→H) (t:TypeId) {α:Type} (g:α→List AV) (Q:α→Nat→Prop):Prop:=
 ∀ n cs x,DataW.trod enc P W 0 (fun _=>true) true n t cs = some x→∃ a:α,Q a (Rows.uptoBulk x.1)∧CellsAre W (g a) cs
theorem reads_int {t:TypeId} (ht:P.underlying t = some (.int .i64)):ReadsAs P W enc t (fun n:Int=>[.int .i64 n]) (fun n _=>-9223372036854775808≤n∧n≤9223372036854775807):=by
 intro n cs x h
 obtain ⟨k,rfl,_,hw⟩:=DataW.trod_int ht h
 have:=int_rng hw
 exact ⟨k,⟨this.1,by omega⟩,.one (.int _ _) rfl⟩
namespace Bulks
theorem one_le (d:DataW H):1≤Rows.uptoBulk d:=by
 cases d with
 | lit l=>cases l <;> simp [Rows.uptoBulk]
 | nil=>simp [Rows.uptoBulk]
 | ptr d=>simp [Rows.uptoBulk]
 | slice elems spare=>simp [Rows.uptoBulk]
 | agg parts=>simp [Rows.uptoBulk]
 | iface t d=>simp [Rows.uptoBulk]
 | map entries=>simp [Rows.uptoBulk]
 | held h=>simp [Rows.uptoBulk]
theorem part_le {d:DataW H} {l:List (DataW H)} (h:d ∈ l):Rows.uptoBulk d≤Rows.uptoBulkAll l:=by
 induction l with
 | nil=>cases h
 | cons x r ih =>
  simp only [Rows.uptoBulkAll]
  cases List.mem_cons.1 h with
  | inl e=>subst e; omega
  | inr e=>have:=ih e; omega
theorem length_le (l:List (DataW H)):l.length≤Rows.uptoBulkAll l:=by
 induction l with
 | nil=>simp [Rows.uptoBulkAll]
 | cons x r ih=>have:=one_le x; simp only [Rows.uptoBulkAll,List.length_cons]; omega
theorem bound {l:List (DataW H)} (hk:Rows.uptoSmall H l = true):Rows.uptoBulkAll l≤1048576:=by
 simpa [Rows.uptoSmall] using hk
theorem field_le {xs:List (DataW H × List MemPlace)} {i:Nat} {y:DataW H × List MemPlace} (h:xs[i]? = some y):Rows.uptoBulk y.1≤Rows.uptoBulk (DataW.agg (xs.map (·.1))):=by
 have:=part_le (List.mem_map_of_mem (f:=fun y:DataW H × List MemPlace=>y.1) (List.mem_of_getElem? h))
 simp only [Rows.uptoBulk]
 omega
end Bulks
theorem reads_slice {t e:TypeId} {sz:Nat} {α:Type} [Inhabited α] {g:α→AV} {Q:α→Nat→Prop} (ht:P.underlying t = some (.slice e)) (hc:P.cellsOf e = sz) (hsz:0 < sz) (hg:∀ a,(g a).cells.length = sz∧(g a).closed1 = true) (hel:ReadsAs P W enc e (fun a=>(g a).cells) Q)
  (hQ:∀ a n m,Q a n→n≤m→Q a m):ReadsAs P W enc t (fun l:List α=>[.sl sz (l.map g) .no]) (fun l n=>l.length≤n∧∀ a ∈ l,Q a n):=by
 intro n cs x h
 have hs:∃ A len cap,cs = [.slice A len cap]:=by
  rcases open_slice ht h with ⟨hcs,_⟩ | ⟨a',len',cap',m,n,D,Pl,hcs,_⟩
  ·exact ⟨_,_,_,hcs⟩
  ·exact ⟨_,_,_,hcs⟩
 obtain ⟨A,len,cap,rfl⟩:=hs
 have hel':ElemR P W enc e g (fun a d=>Q a (Rows.uptoBulk d)):=fun n cs x h=>by
  obtain ⟨a,h1,h2⟩:=hel n cs x h
  exact ⟨a,h1,h2.2⟩
 obtain ⟨l,hl,hb⟩:=open_slR ht hc hsz hg hel' ⟨A,len,cap,rfl⟩ (d:=x.1) (ps:=x.2) ⟨n,by simpa [Value.cells] using h⟩
 refine ⟨l,?_,.one hl rfl⟩
 rcases hb with rfl | ⟨elems,spare,he,hlen,hq⟩
 ·exact ⟨Nat.zero_le _,fun a ha=>by cases ha⟩
 ·rw [he]
  have hE:Rows.uptoBulk (DataW.slice elems spare) = Rows.uptoBulkAll elems + Rows.uptoBulkAll spare + 1:=by simp only [Rows.uptoBulk]
  rw [hE]
  refine ⟨by have:=Bulks.length_le elems; omega,fun a ha=>?_⟩
  obtain ⟨i,hi⟩:=List.mem_iff_getElem?.1 ha
  have hlt:i < elems.length:=by rw [hlen]; exact (List.getElem?_eq_some_iff.1 hi).1
  have hx:=List.getElem?_eq_getElem hlt
  refine hQ a _ _ (hq i a _ hi hx) ?_
  have:=Bulks.part_le (List.mem_of_getElem? hx)
  omega
/-! cells of any type -/
end
open Go.Proofs Go.Proofs.YtfcdefnkhkijaaaGreatDoor
section
variable {H : Type} {enc : TypeId × Value → H} {P : Program} {W : World}
theorem fieldR {t:TypeId} {α:Type} {g:α→List AV} {Q:α→Nat→Prop} (hr:ReadsAs P W enc t g Q) (hQ:∀ a n m,Q a n→n≤m→Q a m) {fs:Array Field} {xs:List (DataW H × List MemPlace)} {n:Nat} {cs:List Value} {x:DataW H × List MemPlace}
  (hx:x = (.agg (xs.map (·.1)),xs.flatMap (·.2))) (hxl:xs.length = fs.size)
  (hf:∀ (i:Nat) (f:Field),fs[i]? = some f→DataW.trod enc P W 0 (fun _=>true) true n f.type ((cs.drop f.offset).take (P.cellsOf f.type)) = xs[i]?)
  (i:Nat) {f:Field} (hi:fs[i]? = some f) (ht:f.type = t) {o s:Nat} (ho:f.offset = o) (hs:P.cellsOf t = s):∃ a,Q a (Rows.uptoBulk x.1)∧CellsAre W (g a) ((cs.drop o).take s):=by
 have h:=hf i f hi
 rw [ht,ho,hs] at h
 have hil:i < xs.length:=by rw [hxl]; exact (Array.getElem?_eq_some_iff.1 hi).1
 have hg:=List.getElem?_eq_getElem hil
 rw [hg] at h
 obtain ⟨a,h1,h2⟩:=hr n _ _ h
 refine ⟨a,hQ a _ _ h1 ?_,h2⟩
 rw [hx]
 exact Bulks.field_le hg
theorem ReadsAs.map {t:TypeId} {α β:Type} {g:α→List AV} {g':β→List AV} {Q:α→Nat→Prop} {Q':β→Nat→Prop} (h:ReadsAs P W enc t g Q) (f:α→β) (hg:∀ a,g a = g' (f a)) (hQ:∀ a n,Q a n→Q' (f a) n):ReadsAs P W enc t g' Q':=fun n cs x hx=>by
 obtain ⟨a,h1,h2⟩:=h n cs x hx
 exact ⟨f a,hQ a _ h1,by rw [← hg]; exact h2⟩
end
section
variable {H : Type} {enc : TypeId × Value → H} {W : World}
theorem cz3:PQ.cellsOf 3 = 1:=by kernel_rfl
theorem cz9:PQ.cellsOf 9 = 1:=by kernel_rfl
theorem cz23:PQ.cellsOf 23 = 1:=by kernel_rfl
theorem cz24:PQ.cellsOf 24 = 1:=by kernel_rfl
theorem cz65:PQ.cellsOf 65 = 3:=by kernel_rfl
theorem cz26:PQ.cellsOf 26 = 5:=by kernel_rfl
theorem st65:∃ f0 f1 f2:Field,PQ.underlying 65 = some (.struct #[f0,f1,f2])∧(f0.type = 9∧f0.offset = 0)∧(f1.type = 3∧f1.offset = 1)∧(f2.type = 3∧f2.offset = 2):=⟨_,_,_,Tryz.underlying65,⟨rfl,rfl⟩,⟨rfl,rfl⟩,⟨rfl,rfl⟩⟩
theorem st26:∃ f0 f1 f2 f3 f4:Field,PQ.underlying 26 = some (.struct #[f0,f1,f2,f3,f4])∧(f0.type = 9∧f0.offset = 0)∧(f1.type = 23∧f1.offset = 1)∧(f2.type = 24∧f2.offset = 2)∧(f3.type = 3∧f3.offset = 3)∧(f4.type = 3∧f4.offset = 4):=⟨_,_,_,_,_,Tryz.underlying26,⟨rfl,rfl⟩,⟨rfl,rfl⟩,⟨rfl,rfl⟩,⟨rfl,rfl⟩,⟨rfl,rfl⟩⟩
theorem rStr:ReadsAs PQ W enc 9 (fun s:List UInt8=>[.str s]) (fun s _=>s.length≤maxI):=by
 intro n cs x h
 obtain ⟨s,rfl,_,hw⟩:=DataW.trod_string Tryz.underlying9 h
 exact ⟨s.data.toList,by simpa [Lit.wf,maxI,maxLen] using hw,.one (mk_str s) rfl⟩
theorem rInt:ReadsAs PQ W enc 3 (fun n:Int=>[.int .i64 n]) (fun _ _=>True):=by
 intro n cs x h
 obtain ⟨s,_,h2⟩:=reads_int Tryz.underlying3 n cs x h
 exact ⟨s,trivial,h2⟩
theorem rLb:ReadsAs PQ W enc 65 (fun v:Lb=>(lbA v).cells) (fun v _=>v.key.length≤maxI):=by
 intro n cs x h
 obtain ⟨f0,f1,f2,hu,⟨t0,o0⟩,⟨t1,o1⟩,⟨t2,o2⟩⟩:=st65
 obtain ⟨xs,m,_,hx,hlen,hxl,hf⟩:=DataW.trod_struct hu h
 obtain ⟨a0,q0,c0⟩:=fieldR rStr (fun _ _ _ h _=>h) hx hxl hf 0 rfl t0 o0 cz9
 obtain ⟨a1,q1,c1⟩:=fieldR rInt (fun _ _ _ h _=>h) hx hxl hf 1 rfl t1 o1 cz3
 obtain ⟨a2,q2,c2⟩:=fieldR rInt (fun _ _ _ h _=>h) hx hxl hf 2 rfl t2 o2 cz3
 exact ⟨⟨a0,a1,a2⟩,q0,c0.next rfl (c1.next rfl (c2.last (by rw [hlen]; exact cz65)))⟩
theorem rLbs:ReadsAs PQ W enc 24 (fun l:List Lb=>[.sl 3 (lbsL l) .no]) (fun l _=>keysOk l = true):=fun n cs x h=>by
 obtain ⟨l,h1,h2⟩:=reads_slice (g:=lbA) Tryz.underlying24 cz65 (by omega) (fun _=>⟨rfl,rfl⟩) rLb (fun _ _ _ h _=>h) n cs x h
 exact ⟨l,by simpa [keysOk] using h1.2,h2⟩
theorem rStrs:ReadsAs PQ W enc 23 (fun l:List (List UInt8)=>[.sl 1 (strsL l) .no]) (fun _ _=>True):=fun n cs x h=>by
 obtain ⟨l,h1,h2⟩:=reads_slice (g:=AV.str) Tryz.underlying23 cz9 (by omega) (fun _=>⟨rfl,rfl⟩) rStr (fun _ _ _ h _=>h) n cs x h
 exact ⟨l,trivial,h2⟩
theorem rRq:ReadsAs PQ W enc 26 (fun r:Rq=>(rqA r).cells) (fun r _=>keysOk r.labels = true):=by
 intro n cs x h
 obtain ⟨f0,f1,f2,f3,f4,hu,⟨t0,o0⟩,⟨t1,o1⟩,⟨t2,o2⟩,⟨t3,o3⟩,⟨t4,o4⟩⟩:=st26
 obtain ⟨xs,m,_,hx,hlen,hxl,hf⟩:=DataW.trod_struct hu h
 obtain ⟨a0,q0,c0⟩:=fieldR rStr (fun _ _ _ h _=>h) hx hxl hf 0 rfl t0 o0 cz9
 obtain ⟨a1,q1,c1⟩:=fieldR rStrs (fun _ _ _ h _=>h) hx hxl hf 1 rfl t1 o1 cz23
 obtain ⟨a2,q2,c2⟩:=fieldR rLbs (fun _ _ _ h _=>h) hx hxl hf 2 rfl t2 o2 cz24
 obtain ⟨a3,q3,c3⟩:=fieldR rInt (fun _ _ _ h _=>h) hx hxl hf 3 rfl t3 o3 cz3
 obtain ⟨a4,q4,c4⟩:=fieldR rInt (fun _ _ _ h _=>h) hx hxl hf 4 rfl t4 o4 cz3
 exact ⟨⟨a0,a1,a2,a3,a4⟩,q2,c0.next rfl (c1.next rfl (c2.next rfl (c3.next rfl (c4.last (by rw [hlen]; exact cz26)))))⟩
instance : Inhabited Ft := ⟨⟨[], []⟩⟩
end
section
variable {H : Type} {enc : TypeId × Value → H} {W : World}
theorem open_one {t:TypeId} {α:Type} {g:α→AV} {Q:α→Nat→Prop} (hr:ReadsAs PQ W enc t (fun a=>[g a]) Q) {v:Value} {d:DataW H} {ps:List MemPlace} (h1:∃ u,v.cells = #[u]∧v = u) (h:DataW.Trod enc PQ W 0 (fun _=>true) true t v d ps):∃ a,Rep (oldE W) W (g a) v∧Q a (Rows.uptoBulk d):=by
 obtain ⟨u,hu,rfl⟩:=h1
 obtain ⟨fuel,h⟩:=h
 rw [hu] at h
 obtain ⟨a,q,c⟩:=hr fuel _ _ h
 exact ⟨a,(c.2 0 _ _ rfl rfl).1,q⟩
theorem open_agg {t:TypeId} {α:Type} {g:α→List AV} {Q:α→Nat→Prop} (hr:ReadsAs PQ W enc t g Q) {v:Value} {d:DataW H} {ps:List MemPlace} (h1:∃ cs,v = .agg cs) (h:DataW.Trod enc PQ W 0 (fun _=>true) true t v d ps):∃ a,Rep (oldE W) W (.agg (g a)) v∧Q a (Rows.uptoBulk d):=by
 obtain ⟨cs,rfl⟩:=h1
 obtain ⟨fuel,h⟩:=h
 obtain ⟨a,q,c⟩:=hr fuel _ _ h
 refine ⟨a,.agg _ cs ?_ (fun i v hv=>?_) fun i c' v hc hv=>?_,q⟩
 ·have:(g a).length = cs.toList.length:=c.1
  rw [this,Array.length_toList]
 ·have hv':cs.toList[i]? = some v:=by rw [Array.getElem?_toList]; exact hv
  have hil:i < (g a).length:=by rw [c.1]; exact (List.getElem?_eq_some_iff.1 hv').1
  exact (c.2 i _ v (List.getElem?_eq_getElem hil) hv').2
 ·exact (c.2 i c' v hc (by show cs.toList[i]? = some v; rw [Array.getElem?_toList]; exact hv)).1
end
theorem one_slice {P:Program} {W:World} {t e:TypeId} {v:Value} {b:Nat} (ht:P.underlying t = some (.slice e)) (h:Value.okWide P W .any b t v):∃ u,v.cells = #[u]∧v = u:=by
 obtain ⟨A,n,c,rfl⟩:=okWide_slice ht h
 exact ⟨_,rfl,rfl⟩
theorem is_agg {P:Program} {W:World} {t:TypeId} {fs:Array Field} {v:Value} {b:Nat} (ht:P.underlying t = some (.struct fs)) (h:Value.okWide P W .any b t v):∃ cs,v = .agg cs:=by
 obtain ⟨cs,h,_⟩:=okWide_struct ht h
 exact ⟨cs,h⟩
theorem witness_row_shaped {H:Type} {enc:TypeId × Value→H} {C:Checked} {os:Os} {f:FuncId} {fn:Func} {s:OpenSpec} {conds:List PathCond} {apart:Bool} {laid:List (String × DataW Unit)} (w0:World) (args:Array Value) (hos:w0.os = os)
  (hsh:(w0.forCall (fun _ _=>0) ⟨#[],args,[]⟩).Shaped C.prog)
  (hok:Input.okWideB C.prog (w0.forCall (fun _ _=>0) ⟨#[],args,[]⟩) f ⟨#[],args,[]⟩ = true)
  (hrow:s.preRow enc C.prog fn conds apart laid (w0.forCall (fun _ _=>0) ⟨#[],args,[]⟩).memory args) :
  ∃ (w:World) (tape:Tape) (i:Input),w.os = os∧(w.forCall tape i).Shaped C.prog∧i.vars = []∧Input.okWide C.prog (w.forCall tape i) .any w.heap.size f i ∧
   s.preRow enc C.prog fn conds apart laid (w.forCall tape i).memory i.args∧({}:Assume).holds C.prog (lone (Frame.enter C.prog f i.args .normal) [] (w.forCall tape i)):=
 ⟨w0,fun _ _=>0,⟨#[],args,[]⟩,hos,hsh,(Input.okWide_of_okWideB (base:=0) hok).1,(Input.okWide_of_okWideB hok).2,hrow,by
  simp only [Assume.holds]
  exact ⟨by simp,by simp,fun _=>Modest.zero,by simp,by simp⟩⟩
open Go.Proofs Go.Proofs.YtfcdefnkhkijaaaGreatDoor
section
variable {H : Type} {enc : TypeId × Value → H} {W : World}
theorem cz5:PQ.cellsOf 5 = 1:=by kernel_rfl
theorem rU8:ReadsAs PQ W enc 5 (fun c:UInt8=>[.int .u8 c.toNat]) (fun _ _=>True):=by
 intro n cs x h
 obtain ⟨k,rfl,_,hw⟩:=DataW.trod_int Tryz.underlying5 h
 have hk:0≤k∧k < 256:=by
  simp [Lit.wf,IntKind.min,IntKind.max,IntKind.signed,IntKind.bits] at hw
  omega
 refine ⟨UInt8.ofNat k.toNat,trivial,?_⟩
 have:((UInt8.ofNat k.toNat).toNat:Int) = k:=by rw [UInt8.toNat_ofNat']; omega
 show CellsAre W [AV.int .u8 ((UInt8.ofNat k.toNat).toNat:Int)] [.int .u8 k]
 rw [this]
 exact .one (.int _ _) rfl
theorem rBytes:ReadsAs PQ W enc 22 (fun l:List UInt8=>[.sl 1 (bytesL l) .no]) (fun l n=>l.length≤n):=fun n cs x h=>by
 obtain ⟨l,h1,h2⟩:=reads_slice (g:=fun c:UInt8=>AV.int .u8 c.toNat) Tryz.underlying22 cz5 (by omega) (fun _=>⟨rfl,rfl⟩) rU8 (fun _ _ _ h _=>h) n cs x h
 exact ⟨l,h1.1,h2⟩
end
end Go.Abs
namespace Go.Abs
open Go.Proofs Go.Proofs.YtfcdefnkhkijaaaGreatDoor Go.ChangeShapes Go.WideShapes Go.ChangeAt Go.RowKit Go.Deep Go.ChangeMaps
abbrev laidQl:List (String × DataW Unit):=Rows.requestChecksRow.laid
theorem gTens:PQ.globalNamed "asof/decimal.tens" = some 1:=by kernel_rfl
theorem gSyn:PQ.globalNamed "strconv.ErrSyntax" = some 2:=by kernel_rfl
theorem gRange:PQ.globalNamed "strconv.ErrRange" = some 3:=by kernel_rfl
theorem gPows:PQ.globalNamed "internal/strconv.uint64pow10" = some 4:=by kernel_rfl
theorem gFirst:PQ.globalNamed "unicode/utf8.first" = some 5:=by kernel_rfl
theorem gAcc:PQ.globalNamed "unicode/utf8.acceptRanges" = some 6:=by kernel_rfl
theorem nGlob:PQ.globals.size = 9:=by kernel_rfl
def tensL:List Int:=[1,10,100,1000,10000,100000,1000000]
section
variable {W : World}
theorem tens_cells (h:laidMet PQ laidQl W):∀ i,i < 7→W.cell? ⟨1,i,none⟩ = some (.int .i64 (10 ^ i)):=by
 obtain ⟨g,t,cs,fuel,p,h1,h2,h3,h4⟩:=Lib.laidMet.reads h (n := "asof/decimal.tens") (d:=Rows.laid_asof_decimal_tens) (by simp [laidQl,Rows.requestChecksRow])
 obtain rfl:=Option.some.inj (gTens.symm.trans h1)
 have ty:∃ t0 e,(PQ.globals[1]?).map (·.type) = some t0∧PQ.underlying t0 = some (.array 7 e)∧PQ.underlying e = some (.int .i64)∧PQ.cellsOf e = 1∧PQ.cellsOf t0 = 7:=⟨225,3,by kernel_rfl,by kernel_rfl,by kernel_rfl,by kernel_rfl,by kernel_rfl⟩
 obtain ⟨t0,e,g1,g2,g3,g4,g5⟩:=ty
 obtain rfl:=Option.some.inj (g1.symm.trans h2)
 have hcs:=Lib.cells_of_tab (zs:=tensL) g2 g3 g4 g5 h4
 intro i hi
 rw [World.var?_cell h1 h3 i,← Array.getElem?_toList,hcs]
 match i,hi with
 | 0,_ | 1,_ | 2,_ | 3,_ | 4,_ | 5,_ | 6,_=>rfl
theorem pow_cells (h:laidMet PQ laidQl W):∀ i,i < 20→W.cell? ⟨4,i,none⟩ = some (.int .u64 ((10 ^ i:Nat):Int)):=by
 obtain ⟨g,t,cs,fuel,p,h1,h2,h3,h4⟩:=Lib.laidMet.reads h (n := "internal/strconv.uint64pow10") (d:=Rows.laid_internal_strconv_uint64pow10) (by simp [laidQl,Rows.requestChecksRow])
 obtain rfl:=Option.some.inj (gPows.symm.trans h1)
 have ty:∃ t0 e,(PQ.globals[4]?).map (·.type) = some t0∧PQ.underlying t0 = some (.array 20 e)∧PQ.underlying e = some (.int .u64)∧PQ.cellsOf e = 1∧PQ.cellsOf t0 = 20:=⟨238,76,by kernel_rfl,by kernel_rfl,by kernel_rfl,by kernel_rfl,by kernel_rfl⟩
 obtain ⟨t0,e,g1,g2,g3,g4,g5⟩:=ty
 obtain rfl:=Option.some.inj (g1.symm.trans h2)
 have hd:(Rows.laid_internal_strconv_uint64pow10:DataW Unit) = Lib.tabData .u64 Lib.pow10Tab:=by kernel_rfl
 rw [hd] at h4
 have hcs:=Lib.cells_of_tab g2 g3 g4 g5 h4
 intro i hi
 rw [World.var?_cell h1 h3 i,← Array.getElem?_toList,hcs]
 simp [Lib.pow10Tab,hi]
theorem range_cell (h:laidMet PQ laidQl W):∃ t v,W.cell? ⟨3,0,none⟩ = some (.iface t v):=by
 obtain ⟨g,t,cs,fuel,p,h1,h2,h3,h4⟩:=Lib.laidMet.reads h (n := "strconv.ErrRange") (d:=Rows.laid_strconv_ErrRange) (by simp [laidQl,Rows.requestChecksRow])
 obtain rfl:=Option.some.inj (gRange.symm.trans h1)
 have ty:∃ t0 ms,(PQ.globals[3]?).map (·.type) = some t0∧PQ.underlying t0 = some (.interface ms):=⟨109,_,by kernel_rfl,Tryz.underlying109⟩
 obtain ⟨t0,ms,g1,g2⟩:=ty
 obtain rfl:=Option.some.inj (g1.symm.trans h2)
 obtain ⟨_,u,v,hcs,_⟩:=iface_of_trod g2 h4
 refine ⟨u,v,?_⟩
 rw [World.var?_cell h1 h3 0,← Array.getElem?_toList,hcs]
 rfl
theorem syn_cell (h:laidMet PQ laidQl W):∃ t v,W.cell? ⟨2,0,none⟩ = some (.iface t v):=by
 obtain ⟨g,t,cs,fuel,p,h1,h2,h3,h4⟩:=Lib.laidMet.reads h (n := "strconv.ErrSyntax") (d:=Rows.laid_strconv_ErrSyntax) (by simp [laidQl,Rows.requestChecksRow])
 obtain rfl:=Option.some.inj (gSyn.symm.trans h1)
 have ty:∃ t0 ms,(PQ.globals[2]?).map (·.type) = some t0∧PQ.underlying t0 = some (.interface ms):=⟨109,_,by kernel_rfl,Tryz.underlying109⟩
 obtain ⟨t0,ms,g1,g2⟩:=ty
 obtain rfl:=Option.some.inj (g1.symm.trans h2)
 obtain ⟨_,u,v,hcs,_⟩:=iface_of_trod g2 h4
 refine ⟨u,v,?_⟩
 rw [World.var?_cell h1 h3 0,← Array.getElem?_toList,hcs]
 rfl
theorem first_cells (h:laidMet PQ laidQl W):∀ i,i < 256→W.cell? ⟨5,i,none⟩ = some (.int .u8 (Lib.firstT i)):=by
 obtain ⟨g,t,cs,fuel,p,h1,h2,h3,h4⟩:=Lib.laidMet.reads h (n := "unicode/utf8.first") (d:=Rows.laid_unicode_utf8_first) (by simp [laidQl,Rows.requestChecksRow])
 obtain rfl:=Option.some.inj (gFirst.symm.trans h1)
 have ty:∃ t0 e,(PQ.globals[5]?).map (·.type) = some t0∧PQ.underlying t0 = some (.array 256 e)∧PQ.underlying e = some (.int .u8)∧PQ.cellsOf e = 1∧PQ.cellsOf t0 = 256:=⟨147,5,by kernel_rfl,by kernel_rfl,by kernel_rfl,by kernel_rfl,by kernel_rfl⟩
 obtain ⟨t0,e,g1,g2,g3,g4,g5⟩:=ty
 obtain rfl:=Option.some.inj (g1.symm.trans h2)
 have hd:Rows.laid_unicode_utf8_first = Lib.tabData .u8 Lib.firstTab:=by kernel_rfl
 rw [hd] at h4
 have hcs:=Lib.cells_of_tab g2 g3 g4 g5 h4
 intro i hi
 rw [World.var?_cell h1 h3 i,← Array.getElem?_toList,hcs]
 simp [Lib.firstTab,hi]
theorem acc_cells (h:laidMet PQ laidQl W):∀ i,i < 16→W.cell? ⟨6,2 * i,none⟩ = some (.int .u8 (Lib.accLo i))∧W.cell? ⟨6,2 * i + 1,none⟩ = some (.int .u8 (Lib.accHi i)):=by
 obtain ⟨g,t,cs,fuel,p,h1,h2,h3,h4⟩:=Lib.laidMet.reads h (n := "unicode/utf8.acceptRanges") (d:=Rows.laid_unicode_utf8_acceptRanges) (by simp [laidQl,Rows.requestChecksRow])
 obtain rfl:=Option.some.inj (gAcc.symm.trans h1)
 have ty:∃ t0 e f0 f1,(PQ.globals[6]?).map (·.type) = some t0∧PQ.underlying t0 = some (.array 16 e)∧PQ.underlying e = some (.struct #[f0,f1])∧PQ.cellsOf e = 2∧PQ.underlying f0.type = some (.int .u8)∧PQ.underlying f1.type = some (.int .u8)∧f0.offset = 0∧f1.offset = 1∧PQ.cellsOf f0.type = 1∧PQ.cellsOf f1.type = 1:=
  ⟨245,244,_,_,by kernel_rfl,by kernel_rfl,Tryz.underlying244,by kernel_rfl,by kernel_rfl,by kernel_rfl,rfl,rfl,by kernel_rfl,by kernel_rfl⟩
 obtain ⟨t0,e,f0,f1,g1,g2,g3,g4,g5,g6,o0,o1,c0,c1⟩:=ty
 obtain rfl:=Option.some.inj (g1.symm.trans h2)
 have hd:Rows.laid_unicode_utf8_acceptRanges = Lib.acceptData:=by kernel_rfl
 rw [hd] at h4
 intro i hi
 obtain ⟨fuel',d,q,hdi,he⟩:=Lib.array_elem g2 h4 i hi
 simp only [List.getElem?_map,List.getElem?_range hi,Option.map_some,Option.some.injEq] at hdi
 subst hdi
 rw [g4] at he
 have hcs:=Lib.ints_of_struct (k:=.u8) g3 (fun j f hj=>by
  match j,hj with
  | 0,hj=>simp at hj; subst hj; exact ⟨g5,o0,c0⟩
  | 1,hj=>simp at hj; subst hj; exact ⟨g6,o1,c1⟩
  | j + 2,hj=>simp at hj) (by rw [g4]; rfl) he
 have e0:=congrArg (·[0]?) hcs
 have e1:=congrArg (·[1]?) hcs
 simp only [List.getElem?_take,List.getElem?_drop] at e0 e1
 constructor
 ·rw [World.var?_cell h1 h3 (2 * i),← Array.getElem?_toList]
  simpa [Nat.mul_comm] using e0
 ·rw [World.var?_cell h1 h3 (2 * i + 1),← Array.getElem?_toList]
  simpa [Nat.mul_comm] using e1
theorem keptAcc_at {j:Nat} (h:j < 32):keptAcc[j]? = some (.int .u8 (if j % 2 = 0 then Lib.accLo (j / 2) else Lib.accHi (j / 2):Nat)):=by
 match j,h with
 | 0,_=>show some (AV.int .u8 128) = some (.int .u8 (if 0 % 2 = 0 then Lib.accLo (0 / 2) else Lib.accHi (0 / 2):Nat)); simp [Lib.accLo]
 | 1,_=>show some (AV.int .u8 191) = some (.int .u8 (if 1 % 2 = 0 then Lib.accLo (1 / 2) else Lib.accHi (1 / 2):Nat)); simp [Lib.accHi]
 | 2,_=>show some (AV.int .u8 160) = some (.int .u8 (if 2 % 2 = 0 then Lib.accLo (2 / 2) else Lib.accHi (2 / 2):Nat)); simp [Lib.accLo]
 | 3,_=>show some (AV.int .u8 191) = some (.int .u8 (if 3 % 2 = 0 then Lib.accLo (3 / 2) else Lib.accHi (3 / 2):Nat)); simp [Lib.accHi]
 | 4,_=>show some (AV.int .u8 128) = some (.int .u8 (if 4 % 2 = 0 then Lib.accLo (4 / 2) else Lib.accHi (4 / 2):Nat)); simp [Lib.accLo]
 | 5,_=>show some (AV.int .u8 159) = some (.int .u8 (if 5 % 2 = 0 then Lib.accLo (5 / 2) else Lib.accHi (5 / 2):Nat)); simp [Lib.accHi]
 | 6,_=>show some (AV.int .u8 144) = some (.int .u8 (if 6 % 2 = 0 then Lib.accLo (6 / 2) else Lib.accHi (6 / 2):Nat)); simp [Lib.accLo]
 | 7,_=>show some (AV.int .u8 191) = some (.int .u8 (if 7 % 2 = 0 then Lib.accLo (7 / 2) else Lib.accHi (7 / 2):Nat)); simp [Lib.accHi]
 | 8,_=>show some (AV.int .u8 128) = some (.int .u8 (if 8 % 2 = 0 then Lib.accLo (8 / 2) else Lib.accHi (8 / 2):Nat)); simp [Lib.accLo]
 | 9,_=>show some (AV.int .u8 143) = some (.int .u8 (if 9 % 2 = 0 then Lib.accLo (9 / 2) else Lib.accHi (9 / 2):Nat)); simp [Lib.accHi]
 | 10,_=>show some (AV.int .u8 0) = some (.int .u8 (if 10 % 2 = 0 then Lib.accLo (10 / 2) else Lib.accHi (10 / 2):Nat)); simp [Lib.accLo]
 | 11,_=>show some (AV.int .u8 0) = some (.int .u8 (if 11 % 2 = 0 then Lib.accLo (11 / 2) else Lib.accHi (11 / 2):Nat)); simp [Lib.accHi]
 | 12,_=>show some (AV.int .u8 0) = some (.int .u8 (if 12 % 2 = 0 then Lib.accLo (12 / 2) else Lib.accHi (12 / 2):Nat)); simp [Lib.accLo]
 | 13,_=>show some (AV.int .u8 0) = some (.int .u8 (if 13 % 2 = 0 then Lib.accLo (13 / 2) else Lib.accHi (13 / 2):Nat)); simp [Lib.accHi]
 | 14,_=>show some (AV.int .u8 0) = some (.int .u8 (if 14 % 2 = 0 then Lib.accLo (14 / 2) else Lib.accHi (14 / 2):Nat)); simp [Lib.accLo]
 | 15,_=>show some (AV.int .u8 0) = some (.int .u8 (if 15 % 2 = 0 then Lib.accLo (15 / 2) else Lib.accHi (15 / 2):Nat)); simp [Lib.accHi]
 | 16,_=>show some (AV.int .u8 0) = some (.int .u8 (if 16 % 2 = 0 then Lib.accLo (16 / 2) else Lib.accHi (16 / 2):Nat)); simp [Lib.accLo]
 | 17,_=>show some (AV.int .u8 0) = some (.int .u8 (if 17 % 2 = 0 then Lib.accLo (17 / 2) else Lib.accHi (17 / 2):Nat)); simp [Lib.accHi]
 | 18,_=>show some (AV.int .u8 0) = some (.int .u8 (if 18 % 2 = 0 then Lib.accLo (18 / 2) else Lib.accHi (18 / 2):Nat)); simp [Lib.accLo]
 | 19,_=>show some (AV.int .u8 0) = some (.int .u8 (if 19 % 2 = 0 then Lib.accLo (19 / 2) else Lib.accHi (19 / 2):Nat)); simp [Lib.accHi]
 | 20,_=>show some (AV.int .u8 0) = some (.int .u8 (if 20 % 2 = 0 then Lib.accLo (20 / 2) else Lib.accHi (20 / 2):Nat)); simp [Lib.accLo]
 | 21,_=>show some (AV.int .u8 0) = some (.int .u8 (if 21 % 2 = 0 then Lib.accLo (21 / 2) else Lib.accHi (21 / 2):Nat)); simp [Lib.accHi]
 | 22,_=>show some (AV.int .u8 0) = some (.int .u8 (if 22 % 2 = 0 then Lib.accLo (22 / 2) else Lib.accHi (22 / 2):Nat)); simp [Lib.accLo]
 | 23,_=>show some (AV.int .u8 0) = some (.int .u8 (if 23 % 2 = 0 then Lib.accLo (23 / 2) else Lib.accHi (23 / 2):Nat)); simp [Lib.accHi]
 | 24,_=>show some (AV.int .u8 0) = some (.int .u8 (if 24 % 2 = 0 then Lib.accLo (24 / 2) else Lib.accHi (24 / 2):Nat)); simp [Lib.accLo]
 | 25,_=>show some (AV.int .u8 0) = some (.int .u8 (if 25 % 2 = 0 then Lib.accLo (25 / 2) else Lib.accHi (25 / 2):Nat)); simp [Lib.accHi]
 | 26,_=>show some (AV.int .u8 0) = some (.int .u8 (if 26 % 2 = 0 then Lib.accLo (26 / 2) else Lib.accHi (26 / 2):Nat)); simp [Lib.accLo]
 | 27,_=>show some (AV.int .u8 0) = some (.int .u8 (if 27 % 2 = 0 then Lib.accLo (27 / 2) else Lib.accHi (27 / 2):Nat)); simp [Lib.accHi]
 | 28,_=>show some (AV.int .u8 0) = some (.int .u8 (if 28 % 2 = 0 then Lib.accLo (28 / 2) else Lib.accHi (28 / 2):Nat)); simp [Lib.accLo]
 | 29,_=>show some (AV.int .u8 0) = some (.int .u8 (if 29 % 2 = 0 then Lib.accLo (29 / 2) else Lib.accHi (29 / 2):Nat)); simp [Lib.accHi]
 | 30,_=>show some (AV.int .u8 0) = some (.int .u8 (if 30 % 2 = 0 then Lib.accLo (30 / 2) else Lib.accHi (30 / 2):Nat)); simp [Lib.accLo]
 | 31,_=>show some (AV.int .u8 0) = some (.int .u8 (if 31 % 2 = 0 then Lib.accLo (31 / 2) else Lib.accHi (31 / 2):Nat)); simp [Lib.accHi]
 | j + 32,h=>exact absurd h (by omega)
theorem globQA (h:laidMet PQ laidQl W) (hsh:W.ShapedOpen PQ) {m:Int} (hm:W.cell? ⟨0,0,none⟩ = some (.int .i64 m)):GlobOk (GQ m) (oldE W) W:=by
 refine globA (fun g e hg=>?_) fun g e hg=>?_
 ·match g,hg with
  | 1,hg =>
   simp only [GQ,Option.some.injEq] at hg
   subst hg
   refine ⟨rfl,fun j c hj=>?_⟩
   have hlt:j < 7:=(List.getElem?_eq_some_iff.1 hj).1
   refine ⟨_,tens_cells h j hlt,?_,rfl⟩
   have:c = .int .i64 (10 ^ j):=by
    match j,hlt with
    | 0,_ | 1,_ | 2,_ | 3,_ | 4,_ | 5,_ | 6,_=>simp [tensA,AV.cells] at hj; subst hj; rfl
   subst this
   exact .int _ _
  | 0,hg =>
   simp only [GQ,Option.some.injEq] at hg
   subst hg
   refine ⟨rfl,fun j c hj=>?_⟩
   match j,hj with
   | 0,hj=>simp [AV.cells] at hj; subst hj; exact ⟨_,hm,.int _ _,rfl⟩
   | j + 1,hj=>simp [AV.cells] at hj
  | 2,hg =>
   simp only [GQ,Option.some.injEq] at hg
   subst hg
   refine ⟨rfl,fun j c hj=>?_⟩
   match j,hj with
   | 0,hj =>
    simp [AV.cells] at hj; subst hj
    obtain ⟨t,v,hv⟩:=syn_cell h
    exact ⟨_,hv,.ifc _ _,rfl⟩
   | j + 1,hj=>simp [AV.cells] at hj
  | 3,hg =>
   simp only [GQ,Option.some.injEq] at hg
   subst hg
   refine ⟨rfl,fun j c hj=>?_⟩
   match j,hj with
   | 0,hj =>
    simp [AV.cells] at hj; subst hj
    obtain ⟨t,v,hv⟩:=range_cell h
    exact ⟨_,hv,.ifc _ _,rfl⟩
   | j + 1,hj=>simp [AV.cells] at hj
  | 5,hg =>
   simp only [GQ,Option.some.injEq] at hg
   subst hg
   refine ⟨?_,fun j c hj=>?_⟩
   ·simp only [keptFirstA,AV.closed1,keptFirst,List.all_map,List.all_eq_true]
    intro x _; rfl
   ·have hlt:j < 256:=by
     have:=(List.getElem?_eq_some_iff.1 hj).1
     simpa [keptFirstA,AV.cells,keptFirst] using this
    refine ⟨_,first_cells h j hlt,?_,rfl⟩
    have:c = .int .u8 (Lib.firstT j):=by
     simp only [keptFirstA,AV.cells,keptFirst,List.getElem?_map,List.getElem?_range hlt,Option.map_some,Option.some.injEq] at hj
     exact hj.symm
    subst this
    exact .int _ _
  | 6,hg =>
   simp only [GQ,Option.some.injEq] at hg
   subst hg
   refine ⟨rfl,fun j c hj=>?_⟩
   have hlt:j < 32:=(List.getElem?_eq_some_iff.1 hj).1
   have key:W.cell? ⟨6,j,none⟩ = some (.int .u8 (if j % 2 = 0 then Lib.accLo (j / 2) else Lib.accHi (j / 2))):=by
    obtain ⟨a1,a2⟩:=acc_cells h (j / 2) (by omega)
    by_cases hp:j % 2 = 0
    ·rw [if_pos hp,show j = 2 * (j / 2) by omega,a1]
     congr 4; omega
    ·rw [if_neg hp]
     conv=>lhs; rw [show j = 2 * (j / 2) + 1 by omega]
     rw [a2]
   refine ⟨_,key,?_,rfl⟩
   have h2:=keptAcc_at hlt
   have h3:keptAcc[j]? = some c:=hj
   rw [h3] at h2
   injection h2 with h2
   subst h2
   by_cases hp:j % 2 = 0
   ·simp only [hp,if_true]; exact .int _ _
   ·simp only [hp,if_false]; exact .int _ _
  | 4,hg =>
   simp only [GQ,Option.some.injEq] at hg
   subst hg
   refine ⟨?_,fun j c hj=>?_⟩
   ·simp only [keptPowsA,AV.closed1,keptPows,List.all_map,List.all_eq_true]
    intro x _; rfl
   ·have hlt:j < 20:=by
     have:=(List.getElem?_eq_some_iff.1 hj).1
     simpa [keptPowsA,AV.cells,keptPows] using this
    refine ⟨_,pow_cells h j hlt,?_,rfl⟩
    have:c = .int .u64 ((10 ^ j:Nat):Int):=by
     simp only [keptPowsA,AV.cells,keptPows,List.getElem?_map,List.getElem?_range hlt,Option.map_some,Option.some.injEq] at hj
     exact hj.symm
    subst this
    exact .int _ _
  | g + 7,hg=>cases hg
 ·match g,hg with
  | 1,hg =>
   simp only [GQ,Option.some.injEq] at hg
   subst hg
   exact glob_size hsh (n:=7) (by rw [nGlob]; omega) (by kernel_rfl)
  | 0,hg =>
   simp only [GQ,Option.some.injEq] at hg
   subst hg
   exact glob_size hsh (n:=1) (by rw [nGlob]; omega) (by kernel_rfl)
  | 2,hg =>
   simp only [GQ,Option.some.injEq] at hg
   subst hg
   exact glob_size hsh (n:=1) (by rw [nGlob]; omega) (by kernel_rfl)
  | 3,hg =>
   simp only [GQ,Option.some.injEq] at hg
   subst hg
   exact glob_size hsh (n:=1) (by rw [nGlob]; omega) (by kernel_rfl)
  | 5,hg =>
   simp only [GQ,Option.some.injEq] at hg
   subst hg
   have:=glob_size (P:=PQ) hsh (g:=5) (n:=256) (by rw [nGlob]; omega) (by kernel_rfl)
   have hn:keptFirstA.cells.length = 256:=by simp [keptFirstA,AV.cells,keptFirst]
   rw [hn]; exact this
  | 6,hg =>
   simp only [GQ,Option.some.injEq] at hg
   subst hg
   exact glob_size hsh (n:=32) (by rw [nGlob]; omega) (by kernel_rfl)
  | 4,hg =>
   simp only [GQ,Option.some.injEq] at hg
   subst hg
   have:=glob_size (P:=PQ) hsh (g:=4) (n:=20) (by rw [nGlob]; omega) (by kernel_rfl)
   have hn:keptPowsA.cells.length = 20:=by simp [keptPowsA,AV.cells,keptPows]
   rw [hn]; exact this
  | g + 7,hg=>cases hg
end
end Go.Abs
