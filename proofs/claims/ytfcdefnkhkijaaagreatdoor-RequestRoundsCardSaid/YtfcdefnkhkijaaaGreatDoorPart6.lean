/- Own texts, part 6. -/
import Derived.Test.YtfcdefnkhkijaaaGreatDoorPart5
import Derived.WalkLawsBesides
import Derived.Test.YtfcdefnkhkijaaaGreatDoorPart3
import Derived.Lib.Hide
import Derived.Lib.AppendStr
import Derived.Test.YtfcdefnkhkijaaaGreatDoorPart4
import Derived.Lib.ItoaLen
import Derived.KernelRfl
import Derived.Lib.DecodeNEq
import Derived.Lib.AtoiAll

namespace Go.Abs
open Go.Proofs
theorem bOk5 {b0 b1 b2 es:List AV} (h0:pOk 5 b0) (h1:pOk 5 b1) (h2:pOk 5 b2):boxesOk 5 [some b0,some b1,some b2,some [.sl 3 es .no],some [.ptr 3 0]] = true:=by
 unfold pOk at h0 h1 h2
 simp only [boxesOk,h0,h1,h2,Bool.or_true,Bool.true_and]
 rfl
theorem bOk6 {b0 b1 b2 es:List AV} {b5:Option (List AV)} (h0:pOk 6 b0) (h1:pOk 6 b1) (h2:pOk 6 b2) (h5:oOk 6 b5):boxesOk 6 [some b0,some b1,some b2,some [.sl 3 es .no],some [.ptr 3 0],b5] = true:=by
 unfold pOk at h0 h1 h2
 cases b5 with
 | none =>
  simp only [boxesOk,h0,h1,h2,Bool.or_true,Bool.true_and]
  rfl
 | some c =>
  have h5:c.all (AV.p1 6) = true:=h5
  simp only [boxesOk,h0,h1,h2,h5,Bool.or_true,Bool.true_and]
  rfl
theorem drop_tok (t:Tk) (l:List Tk):List.drop 1 (List.take (toksL (t :: l)).length (toksL (t :: l))) = toksL l:=by
 rw [List.take_length]; rfl
theorem p45 (m:Int) (s:List UInt8):PureOk PQ (GQ m) XN (tbl []) (itbl []) nAn [] 45 [.str s] (.bool true,[]):=by
 constructor
 rw [w45]
 exact ⟨rfl⟩
theorem o45 (m:Int):SpecOk PQ (GQ m) 45 s45:=spec_of (X:=XN) (m:=[]) mixedQ tbl_nil itbl_nil fun args r h=>by
 unfold s45 at h
 split at h
 case h_2=>cases h
 injection h with h; subst h
 exact ⟨_,p45 m _⟩
theorem tN_ok (m:Int):CalleeOk PQ (GQ m) (tbl tN):=tbl_cons (o40u m) (tbl_cons (o45 m) (tbl_cons (o89 m) tbl_nil))
theorem J0_ok {P:Program} {G:Glob} {fs:FuncId→Bool}:InOk P G fs J0:=fun _ _ _ _ _ h=>h.elim
theorem good_end {k:Int} {acc:List UInt8→Bool} {t:Tk} {l:List Tk} {mk:List AV→St} {ok:Bool} {S:St} (hok:ok = true) (hk:(t.k != k) = false) (ha:acc t.s = true) (hS:mk (if k = 6 then toksL (t :: l) else toksL l) = S):PEnd ok none (.str t.s) S (nextOuts k acc (toksL (t :: l)) mk):=
 ⟨hok,_,List.mem_cons_self,⟨by simpa [hdT,unTk_ok] using hk,ha⟩,rfl,rfl,hS⟩
theorem bad_end {k:Int} {acc:List UInt8→Bool} {t:Tk} {l:List Tk} {mk:List AV→St} {ok:Bool} {S:St} (hok:ok = true) (hk:(t.k != k) = true∨acc t.s = false) (hS:mk (toksL (t :: l)) = S):PEnd ok (some (wrongV t.a 90)) (.tup []) S (nextOuts k acc (toksL (t :: l)) mk):=
 have hn:¬ ((hdT (toksL (t :: l))).k = k∧acc (hdT (toksL (t :: l))).s = true):=fun hh=>by
  have h1:t.k = k:=hh.1
  have h2:acc t.s = true:=hh.2
  rcases hk with hk | hk
  ·simp [h1] at hk
  ·rw [h2] at hk; exact absurd hk (by simp)
 ⟨hok,_,List.mem_cons_of_mem _ List.mem_cons_self,hn,rfl,rfl,hS⟩
theorem len_tok (t:Tk) (l:List Tk):(0:Int) < ((toksL (t :: l)).length:Int):=by simp only [List.map_cons,List.length_cons]; omega
theorem len_tok1 (t:Tk) (l:List Tk):1≤(toksL (t :: l)).length:=by simp
theorem p39a (m:Int) (k:Int) (t:Tk) (l:List Tk) (b0 b1 b2:List AV) (lv:List (Nat × TypeId)) (h0:pOk 5 b0) (h1:pOk 5 b1) (h2:pOk 5 b2):PnOk PQ (GQ m) XN (tbl tN) (itbl []) fsN J0 g39 39 [.ptr 3 0,.int .i64 k,.fn 40 []] (pS b0 b1 b2 (toksL (t :: l)) lv) (nextOuts k nameR (toksL (t :: l)) fun e=>pS b0 b1 b2 e lv):=by
 constructor
 rw [w39a]; unfold w39ac1 I6
 have hb:∀ es,boxesOk 5 [some b0,some b1,some b2,some [.sl 3 es .no],some [.ptr 3 0]] = true:=fun es=>bOk5 h0 h1 h2
 refine ⟨⟨Int.le_refl _,len_tok t l⟩,_,_,_,rfl,fun c=>bad_end (by rw [hb]; rfl) (.inl c) rfl,fun c=>⟨_,⟨rfl⟩,fun d=>⟨fun e=>⟨by omega,⟨len_tok1 t l,Nat.le_refl _⟩,.inl rfl,good_end (by rw [hb]; rfl) c d ?_⟩,fun e=>good_end (by rw [hb]; rfl) c d ?_⟩,fun d=>bad_end (by rw [hb]; rfl) (.inr d) rfl⟩⟩
 ·have:k ≠ 6:=by rintro rfl; simp only [bne_iff_ne,ne_eq,bne_eq_false_iff_eq] at c e; exact e c
  rw [if_neg this,drop_tok]; rfl
 ·have:k = 6:=by simp only [bne_eq_false_iff_eq] at c e; rw [← c,e]
  rw [if_pos this]; rfl
theorem p39b (m:Int) (k:Int) (t:Tk) (l:List Tk) (b0 b1 b2:List AV) (lv:List (Nat × TypeId)) (h0:pOk 5 b0) (h1:pOk 5 b1) (h2:pOk 5 b2):PnOk PQ (GQ m) XN (tbl tN) (itbl []) fsN J0 g39 39 [.ptr 3 0,.int .i64 k,.fn 45 []] (pS b0 b1 b2 (toksL (t :: l)) lv) (nextOuts k everyB (toksL (t :: l)) fun e=>pS b0 b1 b2 e lv):=by
 constructor
 rw [w39b]; unfold w39bc1 I6
 have hb:∀ es,boxesOk 5 [some b0,some b1,some b2,some [.sl 3 es .no],some [.ptr 3 0]] = true:=fun es=>bOk5 h0 h1 h2
 refine ⟨⟨Int.le_refl _,len_tok t l⟩,_,_,_,rfl,fun c=>bad_end (by rw [hb]; rfl) (.inl c) rfl,fun c=>⟨_,⟨rfl⟩,fun d=>⟨fun e=>⟨by omega,⟨len_tok1 t l,Nat.le_refl _⟩,.inl rfl,good_end (by rw [hb]; rfl) c rfl ?_⟩,fun e=>good_end (by rw [hb]; rfl) c rfl ?_⟩,nofun⟩⟩
 ·have:k ≠ 6:=by rintro rfl; simp only [bne_iff_ne,ne_eq,bne_eq_false_iff_eq] at c e; exact e c
  rw [if_neg this,drop_tok]; rfl
 ·have:k = 6:=by simp only [bne_eq_false_iff_eq] at c e; rw [← c,e]
  rw [if_pos this]; rfl
theorem p39c (m:Int) (k:Int) (t:Tk) (l:List Tk) (b0 b1 b2 b5:List AV) (lv:List (Nat × TypeId)) (h0:pOk 6 b0) (h1:pOk 6 b1) (h2:pOk 6 b2) (h5:pOk 6 b5):PnOk PQ (GQ m) XN (tbl tN) (itbl []) fsN J0 g39 39 [.ptr 3 0,.int .i64 k,.fn 45 []] (pS6 b0 b1 b2 (toksL (t :: l)) (some b5) lv) (nextOuts k everyB (toksL (t :: l)) fun e=>pS6 b0 b1 b2 e (some b5) lv):=by
 constructor
 rw [w39c]; unfold w39cc1 I6
 have hb:∀ es,boxesOk 6 [some b0,some b1,some b2,some [.sl 3 es .no],some [.ptr 3 0],some b5] = true:=fun es=>bOk6 h0 h1 h2 h5
 refine ⟨⟨Int.le_refl _,len_tok t l⟩,_,_,_,rfl,fun c=>bad_end (by rw [hb]; rfl) (.inl c) rfl,fun c=>⟨_,⟨rfl⟩,fun d=>⟨fun e=>⟨by omega,⟨len_tok1 t l,Nat.le_refl _⟩,.inl rfl,good_end (by rw [hb]; rfl) c rfl ?_⟩,fun e=>good_end (by rw [hb]; rfl) c rfl ?_⟩,nofun⟩⟩
 ·have:k ≠ 6:=by rintro rfl; simp only [bne_iff_ne,ne_eq,bne_eq_false_iff_eq] at c e; exact e c
  rw [if_neg this,drop_tok]; rfl
 ·have:k = 6:=by simp only [bne_eq_false_iff_eq] at c e; rw [← c,e]
  rw [if_pos this]; rfl
theorem p39e (m:Int) (k:Int) (t:Tk) (l:List Tk) (b0 b1 b2:List AV) (lv:List (Nat × TypeId)) (h0:pOk 6 b0) (h1:pOk 6 b1) (h2:pOk 6 b2):PnOk PQ (GQ m) XN (tbl tN) (itbl []) fsN J0 g39 39 [.ptr 3 0,.int .i64 k,.fn 45 []] (pS6 b0 b1 b2 (toksL (t :: l)) none lv) (nextOuts k everyB (toksL (t :: l)) fun e=>pS6 b0 b1 b2 e none lv):=by
 constructor
 rw [w39e]; unfold w39ec1 I6
 have hb:∀ es,boxesOk 6 [some b0,some b1,some b2,some [.sl 3 es .no],some [.ptr 3 0],none] = true:=fun es=>bOk6 h0 h1 h2 trivial
 refine ⟨⟨Int.le_refl _,len_tok t l⟩,_,_,_,rfl,fun c=>bad_end (by rw [hb]; rfl) (.inl c) rfl,fun c=>⟨_,⟨rfl⟩,fun d=>⟨fun e=>⟨by omega,⟨len_tok1 t l,Nat.le_refl _⟩,.inl rfl,good_end (by rw [hb]; rfl) c rfl ?_⟩,fun e=>good_end (by rw [hb]; rfl) c rfl ?_⟩,nofun⟩⟩
 ·have:k ≠ 6:=by rintro rfl; simp only [bne_iff_ne,ne_eq,bne_eq_false_iff_eq] at c e; exact e c
  rw [if_neg this,drop_tok]; rfl
 ·have:k = 6:=by simp only [bne_eq_false_iff_eq] at c e; rw [← c,e]
  rw [if_pos this]; rfl
theorem p39d (m:Int) (k:Int) (w:List UInt8) (t:Tk) (l:List Tk) (b0 b1 b2:List AV) (lv:List (Nat × TypeId)) (h0:pOk 6 b0) (h1:pOk 6 b1) (h2:pOk 6 b2):PnOk PQ (GQ m) XN (tbl tN) (itbl []) fsW (inW PQ idMk (GQ m) XN (tbl []) (itbl []) fsW cfW 1) g39 39 [.ptr 3 0,.int .i64 k,.fn 87 [.ptr 5 0]] (pS6 b0 b1 b2 (toksL (t :: l)) (some [.str w]) lv) (nextOuts k (fun s=>s == w) (toksL (t :: l)) fun e=>pS6 b0 b1 b2 e (some [.str w]) lv):=by
 constructor
 rw [w39d]; unfold w39dc1 I6
 have hb:∀ es,boxesOk 6 [some b0,some b1,some b2,some [.sl 3 es .no],some [.ptr 3 0],some [.str w]] = true:=fun es=>bOk6 h0 h1 h2 rfl
 refine ⟨⟨Int.le_refl _,len_tok t l⟩,_,_,_,rfl,fun c=>bad_end (by rw [hb]; rfl) (.inl c) rfl,fun c=>⟨fun d=>⟨fun e=>⟨by omega,⟨len_tok1 t l,Nat.le_refl _⟩,.inl rfl,good_end (by rw [hb]; rfl) c d ?_⟩,fun e=>good_end (by rw [hb]; rfl) c d ?_⟩,fun d=>bad_end (by rw [hb]; rfl) (.inr d) rfl⟩⟩
 ·have:k ≠ 6:=by rintro rfl; simp only [bne_iff_ne,ne_eq,bne_eq_false_iff_eq] at c e; exact e c
  rw [if_neg this,drop_tok]; rfl
 ·have:k = 6:=by simp only [bne_eq_false_iff_eq] at c e; rw [← c,e]
  rw [if_pos this]; rfl
theorem o39 (m:Int):PSpecOk PQ (GQ m) 39 s39:=pspec_of mixedQ fun args S p os h hp=>by
 unfold s39 at h
 split at h
 case h_5=>cases h
 case h_1 =>
  split at h
  case isFalse=>cases h
  rename_i hg
  injection h with h
  injection h with e1 e2
  subst e1; subst e2
  obtain ⟨⟨t,l,rfl⟩,h0,h1,h2⟩:=hp
  rcases hg with rfl | rfl
  ·exact ⟨_,_,_,_,_,_,tN_ok m,itbl_nil,J0_ok,p39a m _ t l _ _ _ _ h0 h1 h2⟩
  ·exact ⟨_,_,_,_,_,_,tN_ok m,itbl_nil,J0_ok,p39b m _ t l _ _ _ _ h0 h1 h2⟩
 case h_2 =>
  split at h
  case isFalse=>cases h
  rename_i hg
  subst hg
  injection h with h
  injection h with e1 e2
  subst e1; subst e2
  obtain ⟨⟨t,l,rfl⟩,h0,h1,h2,h5⟩:=hp
  exact ⟨_,_,_,_,_,_,tN_ok m,itbl_nil,J0_ok,p39c m _ t l _ _ _ _ _ h0 h1 h2 h5⟩
 case h_3 =>
  split at h
  case isFalse=>cases h
  rename_i hg
  subst hg
  injection h with h
  injection h with e1 e2
  subst e1; subst e2
  obtain ⟨⟨t,l,rfl⟩,h0,h1,h2⟩:=hp
  exact ⟨_,_,_,_,_,_,tN_ok m,itbl_nil,J0_ok,p39e m _ t l _ _ _ _ h0 h1 h2⟩
 case h_4 =>
  split at h
  case isFalse=>cases h
  rename_i hg
  subst hg
  injection h with h
  injection h with e1 e2
  subst e1; subst e2
  obtain ⟨⟨t,l,rfl⟩,h0,h1,h2⟩:=hp
  exact ⟨_,_,_,_,_,_,tN_ok m,itbl_nil,inW_ok mixedQ tbl_nil itbl_nil 1,p39d m _ _ t l _ _ _ _ h0 h1 h2⟩
theorem p38 (m:Int) (w:List UInt8) (t:Tk) (l:List Tk) (b0 b1 b2:List AV) (lv:List (Nat × TypeId)) (h0:pOk 5 b0) (h1:pOk 5 b1) (h2:pOk 5 b2) (g0:pOk 6 b0) (g1:pOk 6 b1) (g2:pOk 6 b2):PnOk PQ (GQ m) XN (tbl tN) (itbl []) fsN (ptbl [(39,s39)] J0) g38 38 [.ptr 3 0,.str w] (pS b0 b1 b2 (toksL (t :: l)) lv)
  [⟨t.k = 1∧(t.s == w) = true,none,.tup [],pS b0 b1 b2 (toksL l) lv⟩,⟨¬ (t.k = 1∧(t.s == w) = true),some (wrongV t.a 90),.tup [],pS b0 b1 b2 (toksL (t :: l)) lv⟩]:=by
 constructor
 rw [w38]
 have hb:∀ es,boxesOk 5 [some b0,some b1,some b2,some [.sl 3 es .no],some [.ptr 3 0]] = true:=fun es=>bOk5 h0 h1 h2
 refine ⟨⟨⟨t,l,rfl⟩,g0,g1,g2⟩,fun h=>⟨by rw [hb]; rfl,_,List.mem_cons_self,h,rfl,rfl,rfl⟩,fun h=>⟨by rw [hb]; rfl,_,List.mem_cons_of_mem _ List.mem_cons_self,h,rfl,rfl,rfl⟩,trivial⟩
theorem o38 (m:Int):PSpecOk PQ (GQ m) 38 s38:=pspec_of mixedQ fun args S p os h hp=>by
 unfold s38 at h
 split at h
 case h_2=>cases h
 injection h with h
 injection h with e1 e2
 subst e1; subst e2
 obtain ⟨⟨t,l,rfl⟩,⟨h0,h1,h2⟩,g0,g1,g2⟩:=hp
 exact ⟨_,_,_,_,_,_,tN_ok m,itbl_nil,ptbl_cons (o39 m) (ptbl_nil J0_ok),p38 m _ t l _ _ _ _ h0 h1 h2 g0 g1 g2⟩
theorem num_ok {l:List UInt8} (h:intB l = true) (hl:l.length≤1000000):tbl tN 89 [.str l] = if valL l≤9223372036854775807 then some (.tup [.int .i64 (valL l),.lit .nilIface],[]) else some (.tup [.int .i64 9223372036854775807,.ifc],[]):=by
 show (if l.length≤1000000∧intB l = true then _ else _) = _
 rw [if_pos ⟨hl,h⟩]
 split <;> rfl
theorem p43a (m:Int) (t:Tk) (l:List Tk) (b0 b1 b2:List AV) (lv:List (Nat × TypeId)) (hi:IntIn (toksL (t :: l))) (h0:pOk 5 b0) (h1:pOk 5 b1) (h2:pOk 5 b2):PnOk PQ (GQ m) XN (tbl tN) (itbl []) fsN (ptbl [(39,s39)] J0) g38 43 [.ptr 3 0] (pS b0 b1 b2 (toksL (t :: l)) lv) (numOuts (toksL (t :: l)) fun e=>pS b0 b1 b2 e lv):=by
 constructor
 rw [w43a]; unfold w43ac2 w43ac1 I6
 have hb:∀ es,boxesOk 5 [some b0,some b1,some b2,some [.sl 3 es .no],some [.ptr 3 0]] = true:=fun es=>bOk5 h0 h1 h2
 refine ⟨⟨⟨t,l,rfl⟩,h0,h1,h2⟩,fun h=>?_,fun h=>⟨by rw [hb]; rfl,_,List.mem_cons_of_mem _ List.mem_cons_self,fun e=>h ⟨e,rfl⟩,rfl,rfl,rfl⟩,trivial⟩
 obtain ⟨a1,a2⟩:=hi.out h.1
 have hn:=num_ok a1 a2
 by_cases hv:valL t.s≤9223372036854775807
 ·refine ⟨valL t.s,.inr ⟨⟨hn.trans (if_pos hv)⟩,nofun,fun _=>⟨by rw [hb]; rfl,_,List.mem_cons_self,h.1,rfl,?_,rfl⟩⟩⟩
  show AV.int .i64 (numV t.s) = _
  rw [numV,if_pos hv]
 ·refine ⟨9223372036854775807,.inl ⟨⟨hn.trans (if_neg hv)⟩,fun _=>⟨by rw [hb]; rfl,_,List.mem_cons_self,h.1,rfl,?_,rfl⟩,nofun⟩⟩
  show AV.int .i64 (numV t.s) = _
  rw [numV,if_neg hv]
theorem p43b (m:Int) (t:Tk) (l:List Tk) (b0 b1 b2 b5:List AV) (lv:List (Nat × TypeId)) (hi:IntIn (toksL (t :: l))) (h0:pOk 6 b0) (h1:pOk 6 b1) (h2:pOk 6 b2) (h5:pOk 6 b5):PnOk PQ (GQ m) XN (tbl tN) (itbl []) fsN (ptbl [(39,s39)] J0) g38 43 [.ptr 3 0] (pS6 b0 b1 b2 (toksL (t :: l)) (some b5) lv) (numOuts (toksL (t :: l)) fun e=>pS6 b0 b1 b2 e (some b5) lv):=by
 constructor
 rw [w43b]; unfold w43bc2 w43bc1 I6
 have hb:∀ es,boxesOk 6 [some b0,some b1,some b2,some [.sl 3 es .no],some [.ptr 3 0],some b5] = true:=fun es=>bOk6 h0 h1 h2 h5
 refine ⟨⟨⟨t,l,rfl⟩,h0,h1,h2,h5⟩,fun h=>?_,fun h=>⟨by rw [hb]; rfl,_,List.mem_cons_of_mem _ List.mem_cons_self,fun e=>h ⟨e,rfl⟩,rfl,rfl,rfl⟩,trivial⟩
 obtain ⟨a1,a2⟩:=hi.out h.1
 have hn:=num_ok a1 a2
 by_cases hv:valL t.s≤9223372036854775807
 ·refine ⟨valL t.s,.inr ⟨⟨hn.trans (if_pos hv)⟩,nofun,fun _=>⟨by rw [hb]; rfl,_,List.mem_cons_self,h.1,rfl,?_,rfl⟩⟩⟩
  show AV.int .i64 (numV t.s) = _
  rw [numV,if_pos hv]
 ·refine ⟨9223372036854775807,.inl ⟨⟨hn.trans (if_neg hv)⟩,fun _=>⟨by rw [hb]; rfl,_,List.mem_cons_self,h.1,rfl,?_,rfl⟩,nofun⟩⟩
  show AV.int .i64 (numV t.s) = _
  rw [numV,if_neg hv]
theorem o43 (m:Int):PSpecOk PQ (GQ m) 43 s43:=pspec_of mixedQ fun args S p os h hp=>by
 unfold s43 at h
 split at h
 case h_3=>cases h
 case h_1 =>
  injection h with h
  injection h with e1 e2
  subst e1; subst e2
  obtain ⟨⟨t,l,rfl⟩,hi,h0,h1,h2⟩:=hp
  exact ⟨_,_,_,_,_,_,tN_ok m,itbl_nil,ptbl_cons (o39 m) (ptbl_nil J0_ok),p43a m t l _ _ _ _ hi h0 h1 h2⟩
 case h_2 =>
  injection h with h
  injection h with e1 e2
  subst e1; subst e2
  obtain ⟨⟨t,l,rfl⟩,hi,h0,h1,h2,h5⟩:=hp
  exact ⟨_,_,_,_,_,_,tN_ok m,itbl_nil,ptbl_cons (o39 m) (ptbl_nil J0_ok),p43b m t l _ _ _ _ _ hi h0 h1 h2 h5⟩
def s42:PSpec:=fun args S=>match args,S with
  | [.ptr 0 0,.ptr 4 0],⟨[some [.str en,.sl 1 fs (.tok 0),.sl 0 [] .nil,.int .i64 sd,.int .i64 pm],some b1,some b2,some [.sl 3 es .no],some [.ptr 3 0]],[(n,9)]⟩ =>
    some (TokIn es∧(∃ l,fs = strsL l)∧n = fs.length∧fs.length≤1000000∧pOk 5 b1∧pOk 5 b2,
      [⟨(hdT es).k = 1∧nameR (hdT es).s = true,none,.tup [],pS [.str en,.sl 1 (fs ++ [.str (hdT es).s]) (.tok 0),.sl 0 [] .nil,.int .i64 sd,.int .i64 pm] b1 b2 (es.drop 1) [(fs.length + 1,9)]⟩,
       ⟨¬ ((hdT es).k = 1∧nameR (hdT es).s = true),some (wrongV (hdT es).a 90),.tup [],pS [.str en,.sl 1 fs (.tok 0),.sl 0 [] .nil,.int .i64 sd,.int .i64 pm] b1 b2 es [(fs.length,9)]⟩])
  | _,_=>none
def s44:PSpec:=fun args S=>match args,S with
  | [.ptr 4 0,.ptr 0 0],⟨[some [.str en,.sl 1 fs (.tok 0),.sl 3 ls (.tok 1),.int .i64 sd,.int .i64 pm],some b1,some b2,some [.sl 3 es .no],some [.ptr 3 0]],[q,(n,65)]⟩ =>
    some (TokIn es∧((hdT es).k = 4→TokIn (es.drop 1)∧IntIn (es.drop 1))∧((hdT es).k = 4→(hdT (es.drop 1)).k = 2→TokIn (es.drop 2)∧IntIn (es.drop 2))∧(∃ l,ls = lbsL l)∧n = ls.length∧ls.length≤1000000∧(pOk 5 b1∧pOk 5 b2)∧pOk 6 b1∧pOk 6 b2,
      [⟨(hdT es).k = 4∧(hdT (es.drop 1)).k = 2∧(hdT (es.drop 2)).k = 2,none,.tup [],pS [.str en,.sl 1 fs (.tok 0),.sl 3 (ls ++ [.agg [.str (hdT es).s,.int .i64 (numV (hdT (es.drop 1)).s),.int .i64 (numV (hdT (es.drop 2)).s)]]) (.tok 1),.int .i64 sd,.int .i64 pm] b1 b2 (es.drop 3) [q,(ls.length + 1,65)]⟩,
       ⟨(hdT es).k ≠ 4,some (wrongV (hdT es).a 90),.tup [],pS [.str en,.sl 1 fs (.tok 0),.sl 3 ls (.tok 1),.int .i64 sd,.int .i64 pm] b1 b2 es [q,(ls.length,65)]⟩,
       ⟨(hdT es).k = 4∧(hdT (es.drop 1)).k ≠ 2,some (wrongV (hdT (es.drop 1)).a 90),.tup [],pS [.str en,.sl 1 fs (.tok 0),.sl 3 ls (.tok 1),.int .i64 sd,.int .i64 pm] b1 b2 (es.drop 1) [q,(ls.length,65)]⟩,
       ⟨(hdT es).k = 4∧(hdT (es.drop 1)).k = 2∧(hdT (es.drop 2)).k ≠ 2,some (wrongV (hdT (es.drop 2)).a 90),.tup [],pS [.str en,.sl 1 fs (.tok 0),.sl 3 ls (.tok 1),.int .i64 sd,.int .i64 pm] b1 b2 (es.drop 2) [q,(ls.length,65)]⟩])
  | _,_=>none
/-! Parse -/
structure Pb where
 a:Int
 c:Int
deriving DecidableEq
def pbA (p:Pb):AV:=.agg [.int .i64 p.a,.int .i64 p.c]
abbrev pbsL (l:List Pb):List AV:=l.map pbA
structure GoodT (ts:List Tk):Prop where
 ends:∃ l t,ts = l ++ [t]∧t.k = 6
 ints:∀ t ∈ ts,t.k = 2→intB t.s = true∧t.s.length≤1000000
 few:ts.length≤900000
def zR (a c:Int):AV:=.tup [rqA zRq,.int .i64 a,.int .i64 c]
def resT (ts:List Tk) (pb:List Pb) (e:Int):AV:=
 if e ≠ 0 then zR 0 e else
 match pb with
 | p :: _=>zR p.a p.c
 | []=>if ts = [] then zR 0 90 else resP (parseTk ts)
structure P2 where
 r:Rq
 ts:List Tk
def rqC (r:Rq) (fo:Own) (lsz:Nat) (lo:Own):List AV:=[.str r.entity,.sl 1 (strsL r.feats) fo,.sl lsz (lbsL r.labels) lo,.int .i64 r.seed,.int .i64 r.permille]
def rqN (r:Rq) (fo:Own):List AV:=[.str r.entity,.sl 1 (strsL r.feats) fo,.sl 0 [] .nil,.int .i64 r.seed,.int .i64 r.permille]
def b0n:List AV:=[.int .i64 0]
def pcut (b0:P2→List AV) (e:Int) (lv:P2→List (Nat × TypeId)) (I:P2→Prop) (mb:List (Nat × TypeId)) (kp:Option Nat):Option Ann:=
 some { α:=P2,slots:=[2,3,4,7],nb:=5,vals:=fun _=>[.ptr 0 0,.ptr 1 0,.ptr 2 0,.ptr 4 0],sS:=fun x=>pS (b0 x) b0n [.int .i64 e] (toksL x.ts) (lv x),I:=I,μ:=fun _=>0,mintB:=mb,keep:=kp }
def lv1 (x:P2):List (Nat × TypeId):=[(x.r.feats.length,9)]
def lv2 (x:P2):List (Nat × TypeId):=[(x.r.feats.length,9),(x.r.labels.length,65)]
def aP (ts:List Tk) (e:Int):Anns:=⟨fun k=>match k with
 | 1000012=>pcut (fun x=>[.str x.r.entity,.sl 0 [] .nil,.sl 0 [] .nil,.int .i64 0,.int .i64 0]) e (fun _=>[]) (fun x=>GoodT x.ts∧parseTk ts = k12 ⟨x.r.entity,[],[],0,0⟩ x.ts∧x.ts.length≤ts.length) [] none
 | 1000013=>pcut (fun x=>rqN x.r (.tok 0)) e lv1 (fun x=>GoodT x.ts∧parseTk ts = k13 x.r x.ts∧x.r.feats = []∧x.r.labels = []∧x.ts.length≤ts.length) [(1000,9)] none
 | 1000014=>pcut (fun x=>rqN x.r (.tok 0)) e lv1 (fun x=>GoodT x.ts∧parseTk ts = k14 x.r x.ts∧x.r.labels = []∧x.ts.length≤ts.length) [] none
 | 1000016=>pcut (fun x=>rqN x.r (.tok 0)) e lv1 (fun x=>GoodT x.ts∧parseTk ts = k16 x.r x.ts∧x.r.labels = []∧x.ts.length≤ts.length) [] none
 | 1000018=>pcut (fun x=>rqC x.r (.tok 0) 3 (.tok 1)) e lv2 (fun x=>GoodT x.ts∧parseTk ts = k18 x.r x.ts∧x.r.labels = []∧x.ts.length≤ts.length) [(2000,65)] none
 | 1000021=>pcut (fun x=>rqC x.r (.tok 0) 3 (.tok 1)) e lv2 (fun x=>GoodT x.ts∧parseTk ts = k21 x.r x.ts) [] none
 | _=>none,nA⟩
def aLF (ts:List Tk) (e:Int):Anns:=⟨fun k=>if k = 1 then some { α:=P2,slots:=[0,1],nb:=5,vals:=fun _=>[.ptr 3 0,.fn 42 [.ptr 0 0,.ptr 4 0]],sS:=fun x=>pS (rqN x.r (.tok 0)) b0n [.int .i64 e] (toksL x.ts) (lv1 x),I:=fun x=>GoodT x.ts∧parseTk ts = kMf x.r x.ts x.r.feats∧x.r.labels = []∧x.r.feats.length + x.ts.length≤ts.length,μ:=fun x=>x.ts.length } else none,nA⟩
def aLL (ts:List Tk) (e:Int):Anns:=⟨fun k=>if k = 1 then some { α:=P2,slots:=[0,1],nb:=5,vals:=fun _=>[.ptr 3 0,.fn 44 [.ptr 4 0,.ptr 0 0]],sS:=fun x=>pS (rqC x.r (.tok 0) 3 (.tok 1)) b0n [.int .i64 e] (toksL x.ts) (lv2 x),I:=fun x=>GoodT x.ts∧parseTk ts = kMl x.r x.ts x.r.labels∧x.r.labels.length + x.ts.length≤ts.length,μ:=fun x=>x.ts.length } else none,nA⟩
def cf41 (ts:List Tk) (e:Int) (args:List AV):PCfg:=
 match args with
 | [_,.fn 42 _]=>{ ps:=[0,3],A:=aLF ts e }
 | _=>{ ps:=[0,3],A:=aLL ts e }
def J1:InC:=ptbl [(39,s39),(38,s38),(43,s43),(42,s42),(44,s44)] J0
def s36v (ts:List Tk) (pb:List Pb) (e:Int):AV × List (Nat × TypeId):=(.tup [.sl 3 (toksL ts) .no,.sl 2 (pbsL pb) .no,.int .i64 e],[])
def XP (ts:List Tk) (pb:List Pb) (e:Int):Shapes:=fun f=>match f with
 | 36=>some (.tup [.one (.is (.sl 3 (toksL ts) .no)),.one (.is (.sl 2 (pbsL pb) .no)),.one (.is (.int .i64 e))],none)
 | 40 | 45 | 46 | 87=>some shB
 | _=>none
def gP (ts:List Tk) (e:Int):TCfg:={ ps:=[10,11,12,13,14,15,16,17,20,21,23],A:=aP ts e,dr:=8 }
abbrev JP (m:Int) (mk:Mk) (s:Spec) (ts:List Tk) (pb:List Pb) (e:Int):InC:=inlW PQ mk (GQ m) (XP ts pb e) (tbl [(36,s),(46,s46)]) (itbl []) fsN (cf41 ts e) 41 J1
abbrev w42c5 (en:List UInt8) (fs:List (List UInt8)) (t:Tk) (l:List Tk) (sd:Int) (pm:Int) (b1:List AV) (b2:List AV):List (Option (List AV)):=[some [AV.str en,AV.sl 1 (strsL fs ++ [AV.str (hdT (toksL (t :: l))).s]) (Own.tok 0),AV.sl 0 [] Own.nil,AV.int IntKind.i64 sd,AV.int IntKind.i64 pm],some b1,some b2,some [AV.sl 3 (if (1:Int) = (6:Int) then toksL (t :: l) else List.drop 1 (toksL (t :: l))) Own.no],some [AV.ptr 3 0]]
abbrev w42c1 (fs:List (List UInt8)) (en:List UInt8) (t:Tk) (l:List Tk) (sd:Int) (pm:Int) (b1:List AV) (b2:List AV) (os:List POut):Prop:=(((1:Nat) = (1:Nat)∨strsL fs = [])∧((strsL fs).length + (1:Nat)) * (17:Nat)≤(70368744177664:Nat)∧fs.length = (strsL fs).length∧(PEnd (AV.p2 5 (AV.tup []) && boxesOk 5 (w42c5 en fs t l sd pm b1 b2)) none (AV.tup []) { boxes:=(w42c5 en fs t l sd pm b1 b2),live:=[((strsL fs).length + (1:Nat),9)] } os∧True)∧True)∧True
abbrev w42c6 (en:List UInt8) (fs:List (List UInt8)) (sd:Int) (pm:Int):List AV:=[AV.str en,AV.sl 1 (strsL fs) (Own.tok 0),AV.sl 0 [] Own.nil,AV.int IntKind.i64 sd,AV.int IntKind.i64 pm]
abbrev w42c2 (t:Tk) (l:List Tk) (en:List UInt8) (fs:List (List UInt8)) (sd:Int) (pm:Int) (b1:List AV) (b2:List AV) (os:List POut):Prop:=((hdT (toksL (t :: l))).k = (1:Int)∧accS 40 [] (hdT (toksL (t :: l))).s = true→False)→PEnd (AV.p2 5 (AV.tup []) && boxesOk 5 [some (w42c6 en fs sd pm),some b1,some b2,some [AV.sl 3 (toksL (t :: l)) Own.no],some [AV.ptr 3 0]]) (some (Value.iface 88 (Value.agg #[Value.int IntKind.i64 (hdT (toksL (t :: l))).a,Value.int IntKind.i64 90]))) (AV.tup []) { boxes:=[some (w42c6 en fs sd pm),some b1,some b2,some [AV.sl 3 (toksL (t :: l)) Own.no],some [AV.ptr 3 0]],live:=[(fs.length,9)] } os
abbrev w42c3 (t:Tk) (l:List Tk) (en:List UInt8) (fs:List (List UInt8)) (sd:Int) (pm:Int) (b1:List AV) (b2:List AV):Prop:=TokIn (toksL (t :: l))∧(w42c6 en fs sd pm).all (AV.p1 5) = true∧b1.all (AV.p1 5) = true∧b2.all (AV.p1 5) = true
abbrev w42c4 (t:Tk) (l:List Tk) (en:List UInt8) (fs:List (List UInt8)) (sd:Int) (pm:Int) (b1:List AV) (b2:List AV) (os:List POut):Prop:=(((w42c3 t l en fs sd pm b1 b2)∧((hdT (toksL (t :: l))).k = (1:Int)∧accS 40 [] (hdT (toksL (t :: l))).s = true→(w42c1 fs en t l sd pm b1 b2 os)∧True)∧(w42c2 t l en fs sd pm b1 b2 os)∧True)∧True)∧((w42c3 t l en fs sd pm b1 b2)∧((hdT (toksL (t :: l))).k = (1:Int)∧accS 40 [] (hdT (toksL (t :: l))).s = true→((w42c1 fs en t l sd pm b1 b2 os)∧True)∧((w42c1 fs en t l sd pm b1 b2 os)∧True)∧True)∧(w42c2 t l en fs sd pm b1 b2 os)∧True)∧True
theorem w42 (m:Int) (t:Tk) (l:List Tk) (en:List UInt8) (fs:List (List UInt8)) (sd pm:Int) (b1 b2:List AV) (os:List POut):(pnW PQ idMk (GQ m) XN (tbl tN) (itbl []) fsN (ptbl [(39,s39)] J0) { ps:=[0],A:=nAn } 42 [.ptr 0 0,.ptr 4 0] (pS [.str en,.sl 1 (strsL fs) (.tok 0),.sl 0 [] .nil,.int .i64 sd,.int .i64 pm] b1 b2 (toksL (t :: l)) [(fs.length,9)]) os) =
((((((w42c3 t l en fs sd pm b1 b2)∧((hdT (toksL (t :: l))).k = (1:Int)∧accS 40 [] (hdT (toksL (t :: l))).s = true→(w42c1 fs en t l sd pm b1 b2 os)∧True)∧(w42c2 t l en fs sd pm b1 b2 os)∧True)∧True)∧True)∧(w42c4 t l en fs sd pm b1 b2 os)∧True)∧((w42c4 t l en fs sd pm b1 b2 os)∧((w42c3 t l en fs sd pm b1 b2)∧((hdT (toksL (t :: l))).k = (1:Int)∧accS 40 [] (hdT (toksL (t :: l))).s = true→(((w42c1 fs en t l sd pm b1 b2 os)∧True)∧((w42c1 fs en t l sd pm b1 b2 os)∧True)∧True)∧(((w42c1 fs en t l sd pm b1 b2 os)∧True)∧True)∧True)∧(w42c2 t l en fs sd pm b1 b2 os)∧True)∧True)∧True):=by kernel_rfl
abbrev w44c1 (t:Tk) (l:List Tk):=List.drop 1 (if (4:Int) = (6:Int) then toksL (t :: l) else List.drop 1 (toksL (t :: l)))
abbrev w44c2 (en:List UInt8) (fs:List AV) (ls:List Lb) (sd:Int) (pm:Int):List AV:=[AV.str en,AV.sl 1 fs (Own.tok 0),AV.sl 3 (lbsL ls) (Own.tok 1),AV.int IntKind.i64 sd,AV.int IntKind.i64 pm]
abbrev w44c3 (t:Tk) (l:List Tk):=hdT (if (4:Int) = (6:Int) then toksL (t :: l) else List.drop 1 (toksL (t :: l)))
abbrev w44c4 (en:List UInt8) (fs:List AV) (ls:List Lb) (t:Tk) (l:List Tk) (sd:Int) (pm:Int) (b1:List AV) (b2:List AV):List (Option (List AV)):=[some [AV.str en,AV.sl 1 fs (Own.tok 0),AV.sl 3 (lbsL ls ++ [AV.agg [AV.str (hdT (toksL (t :: l))).s,I6 (numV (w44c3 t l).s),I6 (numV (hdT (w44c1 t l)).s)]]) (Own.tok 1),I6 sd,I6 pm],some b1,some b2,some [AV.sl 3 (List.drop 1 (w44c1 t l)) Own.no],some [AV.ptr 3 0]]
theorem w44 (m:Int) (t:Tk) (l:List Tk) (en:List UInt8) (fs:List AV) (ls:List Lb) (sd pm:Int) (b1 b2:List AV) (q:Nat × TypeId) (os:List POut):(pnW PQ idMk (GQ m) XN (tbl tN) (itbl []) fsN (ptbl [(39,s39),(43,s43)] J0) { ps:=[0,1,2],A:=nAn } 44 [.ptr 4 0,.ptr 0 0] (pS [.str en,.sl 1 fs (.tok 0),.sl 3 (lbsL ls) (.tok 1),.int .i64 sd,.int .i64 pm] b1 b2 (toksL (t :: l)) [q,(ls.length,65)]) os) =
((TokIn (toksL (t :: l))∧(w44c2 en fs ls sd pm).all (AV.p1 6) = true∧b1.all (AV.p1 6) = true∧b2.all (AV.p1 6) = true)∧((hdT (toksL (t :: l))).k = (4:Int)∧everyB (hdT (toksL (t :: l))).s = true→(TokIn (if (4:Int) = (6:Int) then toksL (t :: l) else List.drop 1 (toksL (t :: l)))∧IntIn (if (4:Int) = (6:Int) then toksL (t :: l) else List.drop 1 (toksL (t :: l)))∧(w44c2 en fs ls sd pm).all (AV.p1 6) = true∧b1.all (AV.p1 6) = true∧b2.all (AV.p1 6) = true∧[AV.str (hdT (toksL (t :: l))).s,I6 0,I6 0].all (AV.p1 6) = true)∧((w44c3 t l).k = (2:Int)→(TokIn (w44c1 t l)∧IntIn (w44c1 t l)∧(w44c2 en fs ls sd pm).all (AV.p1 6) = true∧b1.all (AV.p1 6) = true∧b2.all (AV.p1 6) = true∧[AV.str (hdT (toksL (t :: l))).s,I6 (numV (w44c3 t l).s),I6 0].all (AV.p1 6) = true)∧((hdT (w44c1 t l)).k = (2:Int)→((3:Nat) = (3:Nat)∨lbsL ls = [])∧((lbsL ls).length + (1:Nat)) * (33:Nat)≤(70368744177664:Nat)∧ls.length = (lbsL ls).length∧PEnd (AV.p2 5 (AV.tup []) && boxesOk 5 (w44c4 en fs ls t l sd pm b1 b2)) none (AV.tup []) { boxes:=(w44c4 en fs ls t l sd pm b1 b2),live:=[q,((lbsL ls).length + (1:Nat),65)] } os)∧(((hdT (w44c1 t l)).k = (2:Int)→False)→PEnd (AV.p2 5 (AV.tup []) && boxesOk 5 [some (w44c2 en fs ls sd pm),some b1,some b2,some [AV.sl 3 (w44c1 t l) Own.no],some [AV.ptr 3 0]]) (some (Value.iface 88 (Value.agg #[Value.int IntKind.i64 (hdT (w44c1 t l)).a,Value.int IntKind.i64 90]))) (AV.tup []) { boxes:=[some (w44c2 en fs ls sd pm),some b1,some b2,some [AV.sl 3 (w44c1 t l) Own.no],some [AV.ptr 3 0]],live:=[q,(ls.length,65)] } os)∧True)∧(((w44c3 t l).k = (2:Int)→False)→PEnd (AV.p2 5 (AV.tup []) && boxesOk 5 [some (w44c2 en fs ls sd pm),some b1,some b2,some [AV.sl 3 (if (4:Int) = (6:Int) then toksL (t :: l) else List.drop 1 (toksL (t :: l))) Own.no],some [AV.ptr 3 0]]) (some (Value.iface 88 (Value.agg #[Value.int IntKind.i64 (w44c3 t l).a,Value.int IntKind.i64 90]))) (AV.tup []) { boxes:=[some (w44c2 en fs ls sd pm),some b1,some b2,some [AV.sl 3 (if (4:Int) = (6:Int) then toksL (t :: l) else List.drop 1 (toksL (t :: l))) Own.no],some [AV.ptr 3 0]],live:=[q,(ls.length,65)] } os)∧True)∧(((hdT (toksL (t :: l))).k = (4:Int)∧everyB (hdT (toksL (t :: l))).s = true→False)→PEnd (AV.p2 5 (AV.tup []) && boxesOk 5 [some (w44c2 en fs ls sd pm),some b1,some b2,some [AV.sl 3 (toksL (t :: l)) Own.no],some [AV.ptr 3 0]]) (some (Value.iface 88 (Value.agg #[Value.int IntKind.i64 (hdT (toksL (t :: l))).a,Value.int IntKind.i64 90]))) (AV.tup []) { boxes:=[some (w44c2 en fs ls sd pm),some b1,some b2,some [AV.sl 3 (toksL (t :: l)) Own.no],some [AV.ptr 3 0]],live:=[q,(ls.length,65)] } os)∧True):=by kernel_rfl
theorem p42 (m:Int) (t:Tk) (l:List Tk) (en:List UInt8) (fs:List (List UInt8)) (sd pm:Int) (b1 b2:List AV) (n:Nat) (hn0:n = fs.length) (hf:fs.length≤1000000) (h1:pOk 5 b1) (h2:pOk 5 b2):PnOk PQ (GQ m) XN (tbl tN) (itbl []) fsN (ptbl [(39,s39)] J0) { ps:=[0],A:=nAn } 42 [.ptr 0 0,.ptr 4 0] (pS [.str en,.sl 1 (strsL fs) (.tok 0),.sl 0 [] .nil,.int .i64 sd,.int .i64 pm] b1 b2 (toksL (t :: l)) [(n,9)])
    [⟨t.k = 1∧nameR t.s = true,none,.tup [],pS [.str en,.sl 1 (strsL fs ++ [.str t.s]) (.tok 0),.sl 0 [] .nil,.int .i64 sd,.int .i64 pm] b1 b2 (toksL l) [(n + 1,9)]⟩,
     ⟨¬ (t.k = 1∧nameR t.s = true),some (wrongV t.a 90),.tup [],pS [.str en,.sl 1 (strsL fs) (.tok 0),.sl 0 [] .nil,.int .i64 sd,.int .i64 pm] b1 b2 (toksL (t :: l)) [(n,9)]⟩]:=by
  subst hn0
  constructor
  rw [w42]; unfold w42c4 w42c3 w42c2 w42c6 w42c1 w42c5
  have hn:(strsL fs).length = fs.length:=List.length_map _
  have hb:∀ (es:List AV) (o:Own) (ts:List AV),boxesOk 5 [some [.str en,.sl 1 es o,.sl 0 [] .nil,.int .i64 sd,.int .i64 pm],some b1,some b2,some [.sl 3 ts .no],some [.ptr 3 0]] = true:=fun es o ts=>bOk5 rfl h1 h2
  have hT:TokIn (toksL (t :: l)):=⟨t,l,rfl⟩
  have hl:((strsL fs).length + 1) * 17≤70368744177664:=by rw [hn]; omega
  have b1':b1.all (AV.p1 5) = true:=h1
  have b2':b2.all (AV.p1 5) = true:=h2
  have hp:[AV.str en,.sl 1 (strsL fs) (.tok 0),.sl 0 [] .nil,.int .i64 sd,.int .i64 pm].all (AV.p1 5) = true:=rfl
  repeat' (first | exact trivial | exact hT | exact b1' | exact b2' | exact hp | exact hl | exact hn.symm | exact .inl rfl | refine And.intro ?_ ?_ | intro h)
  all_goals (first | exact ⟨by rw [hb]; rfl,_,List.mem_cons_self,h,rfl,rfl,by rw [hn]; rfl⟩ | exact ⟨by rw [hb]; rfl,_,List.mem_cons_of_mem _ List.mem_cons_self,h,rfl,rfl,rfl⟩)
theorem o42 (m:Int):PSpecOk PQ (GQ m) 42 s42:=pspec_of mixedQ fun args S p os h hp=>by
 unfold s42 at h
 split at h
 case h_2=>cases h
 injection h with h
 injection h with e1 e2
 subst e1; subst e2
 obtain ⟨⟨t,l,rfl⟩,⟨fs,rfl⟩,rfl,hf,h1,h2⟩:=hp
 have hn:(strsL fs).length = fs.length:=List.length_map _
 exact ⟨_,_,_,_,_,_,tN_ok m,itbl_nil,ptbl_cons (o39 m) (ptbl_nil J0_ok),p42 m t l _ fs _ _ _ _ _ hn (by rw [hn] at hf; exact hf) h1 h2⟩
theorem p44 (m:Int) (t:Tk) (l:List Tk) (en:List UInt8) (fs:List AV) (ls:List Lb) (sd pm:Int) (b1 b2:List AV) (q:Nat × TypeId) (n:Nat) (hn0:n = ls.length)
    (ht1:t.k = 4→TokIn (toksL l)∧IntIn (toksL l)) (ht2:t.k = 4→(hdT (toksL l)).k = 2→TokIn ((toksL l).drop 1)∧IntIn ((toksL l).drop 1)) (hf:ls.length≤1000000) (h1:pOk 5 b1) (h2:pOk 5 b2) (g1:pOk 6 b1) (g2:pOk 6 b2):PnOk PQ (GQ m) XN (tbl tN) (itbl []) fsN (ptbl [(39,s39),(43,s43)] J0) { ps:=[0,1,2],A:=nAn } 44 [.ptr 4 0,.ptr 0 0] (pS [.str en,.sl 1 fs (.tok 0),.sl 3 (lbsL ls) (.tok 1),.int .i64 sd,.int .i64 pm] b1 b2 (toksL (t :: l)) [q,(n,65)])
    [⟨t.k = 4∧(hdT (toksL l)).k = 2∧(hdT ((toksL l).drop 1)).k = 2,none,.tup [],pS [.str en,.sl 1 fs (.tok 0),.sl 3 (lbsL ls ++ [.agg [.str t.s,.int .i64 (numV (hdT (toksL l)).s),.int .i64 (numV (hdT ((toksL l).drop 1)).s)]]) (.tok 1),.int .i64 sd,.int .i64 pm] b1 b2 ((toksL l).drop 2) [q,(n + 1,65)]⟩,
     ⟨t.k ≠ 4,some (wrongV t.a 90),.tup [],pS [.str en,.sl 1 fs (.tok 0),.sl 3 (lbsL ls) (.tok 1),.int .i64 sd,.int .i64 pm] b1 b2 (toksL (t :: l)) [q,(n,65)]⟩,
     ⟨t.k = 4∧(hdT (toksL l)).k ≠ 2,some (wrongV (hdT (toksL l)).a 90),.tup [],pS [.str en,.sl 1 fs (.tok 0),.sl 3 (lbsL ls) (.tok 1),.int .i64 sd,.int .i64 pm] b1 b2 (toksL l) [q,(n,65)]⟩,
     ⟨t.k = 4∧(hdT (toksL l)).k = 2∧(hdT ((toksL l).drop 1)).k ≠ 2,some (wrongV (hdT ((toksL l).drop 1)).a 90),.tup [],pS [.str en,.sl 1 fs (.tok 0),.sl 3 (lbsL ls) (.tok 1),.int .i64 sd,.int .i64 pm] b1 b2 ((toksL l).drop 1) [q,(n,65)]⟩]:=by
  subst hn0
  constructor
  rw [w44]; unfold w44c4 w44c3 w44c2 w44c1 I6
  have hn:(lbsL ls).length = ls.length:=List.length_map _
  have hb:∀ (es:List AV) (o:Own) (ts:List AV),boxesOk 5 [some [.str en,.sl 1 fs (.tok 0),.sl 3 es o,.int .i64 sd,.int .i64 pm],some b1,some b2,some [.sl 3 ts .no],some [.ptr 3 0]] = true:=fun es o ts=>bOk5 rfl h1 h2
  have e6:∀ (a:List AV),(if (4:Int) = 6 then a else List.drop 1 (toksL (t :: l))) = toksL l:=fun a=>rfl
  have d2:List.drop 1 (List.drop 1 (toksL l)) = (toksL l).drop 2:=by rw [List.drop_drop]
  simp only [e6]
  refine ⟨⟨⟨t,l,rfl⟩,rfl,g1,g2⟩,fun c1=>⟨⟨(ht1 c1.1).1,(ht1 c1.1).2,rfl,g1,g2,rfl⟩,fun c2=>⟨⟨(ht2 c1.1 c2).1,(ht2 c1.1 c2).2,rfl,g1,g2,rfl⟩,fun c3=>⟨.inl trivial,by rw [hn]; omega,hn.symm,⟨by rw [hb]; rfl,_,List.mem_cons_self,⟨c1.1,c2,c3⟩,rfl,rfl,?_⟩⟩,fun c3=>⟨by rw [hb]; rfl,_,List.mem_cons_of_mem _ (List.mem_cons_of_mem _ (List.mem_cons_of_mem _ List.mem_cons_self)),⟨c1.1,c2,c3⟩,rfl,rfl,rfl⟩,trivial⟩,fun c2=>⟨by rw [hb]; rfl,_,List.mem_cons_of_mem _ (List.mem_cons_of_mem _ List.mem_cons_self),⟨c1.1,c2⟩,rfl,rfl,rfl⟩,trivial⟩,fun c1=>⟨by rw [hb]; rfl,_,List.mem_cons_of_mem _ List.mem_cons_self,fun e=>c1 ⟨e,rfl⟩,rfl,rfl,rfl⟩,trivial⟩
  rw [d2,hn]; rfl
theorem o44 (m:Int):PSpecOk PQ (GQ m) 44 s44:=pspec_of mixedQ fun args S p os h hp=>by
 unfold s44 at h
 split at h
 case h_2=>cases h
 injection h with h
 injection h with e1 e2
 subst e1; subst e2
 obtain ⟨⟨t,l,rfl⟩,ht1,ht2,⟨ls,rfl⟩,rfl,hf,⟨h1,h2⟩,g1,g2⟩:=hp
 have hn:(lbsL ls).length = ls.length:=List.length_map _
 exact ⟨_,_,_,_,_,_,tN_ok m,itbl_nil,ptbl_cons (o39 m) (ptbl_cons (o43 m) (ptbl_nil J0_ok)),p44 m t l _ _ ls _ _ _ _ _ _ hn ht1 ht2 (by rw [hn] at hf; exact hf) h1 h2 g1 g2⟩
theorem J1_ok (m:Int):InOk PQ (GQ m) fsN J1:=ptbl_cons (o39 m) (ptbl_cons (o38 m) (ptbl_cons (o43 m) (ptbl_cons (o42 m) (ptbl_cons (o44 m) (ptbl_nil J0_ok)))))
end Go.Abs
namespace Go.Abs
open Go.Proofs Go.RowKit
section
variable {G : Glob} {N0 : Nat → Prop} {w0 : World} {I0 : Nat → Nat → Prop} {S : St} {E : Env} {w : World}
theorem bld_at {b blk:Nat} {buf:AV} (hS:SR PQ G N0 w0 I0 S E w) (hb:S.boxes[b]? = some (some (typB 107 [.opq,buf]))) (hB:E.B b = some blk) :
  ∃ p v,w.heap[blk]? = some (.cells #[p,v] 107 (0,0))∧(p = .pointer none∨p = .pointer (some ⟨blk,0,none⟩))∧Rep E w buf v∧v.oneCell' = true:=by
 obtain ⟨blk',hB',hbx⟩:=hS.box b _ hb
 obtain rfl:blk = blk':=by rw [hB] at hB'; injection hB'
 cases hbx with
 | row arr ty hr=>simp [isRow] at hr
 | iter s pos hcs=>simp at hcs
 | map t n es k e D hcs=>simp [mapC] at hcs
 | own sz es f arr ty hcs=>simp at hcs
 | dead hcs=>simp at hcs
 | typ t cs' arr hcs hh hn hcl hself hc =>
  have h1:t = 107∧cs' = [.opq,buf]:=by
   simp at hcs
   exact ⟨by omega,hcs.2.symm⟩
  obtain ⟨rfl,rfl⟩:=h1
  have hs:=hself (by kernel_rfl)
  obtain ⟨l⟩:=arr
  match l,hn with
  | [p,v],_ =>
   obtain ⟨h2,h3⟩:=hc 1 buf v rfl rfl
   refine ⟨p,v,hh,?_,h2,h3⟩
   simpa using hs
theorem not_frz {b:Nat} {cs:List AV} (hb:S.boxes[b]? = some (some (typB 107 cs))):¬ Frz S b:=by
 intro h
 rcases h.row hb with e | ⟨sz,es,e⟩
 ·cases e
 ·simp at e
theorem bld_set {b blk:Nat} {buf buf':AV} {p v p' v':Value} (hS:SR PQ G N0 w0 I0 S E w) (hb:S.boxes[b]? = some (some (typB 107 [.opq,buf]))) (hB:E.B b = some blk) (hh:w.heap[blk]? = some (.cells #[p,v] 107 (0,0)))
  (hp:p' = .pointer none∨p' = .pointer (some ⟨blk,0,none⟩)) (hv:Rep E w buf' v') (h1:v'.oneCell' = true) (hcl:buf'.closed = true∨buf'.tokSl = true) :
  SR PQ G N0 w0 I0 { S with boxes:=S.boxes.set b (some (typB 107 [.opq,buf'])) } E (w.setRow blk #[p',v'])∧Env.Le E E w (w.setRow blk #[p',v']):=by
 have hblk:∀ k,k ≠ blk→(w.setRow blk #[p',v']).heap[k]? = w.heap[k]?:=fun k hk=>setRow_other w blk k #[p',v'] hk
 have hnf:=not_frz hb
 have hle:Env.Le E E w (w.setRow blk #[p',v']):=⟨fun c o hi=>⟨hi,World.cell?_of_block (a:=⟨c,o,none⟩) (hblk c (fun e=>hnf ((hS.Blt b blk hB).2.2.2 o (e ▸ hi))))⟩,fun _ _ h=>h,fun _ _ _ h=>h,fun id' x hx=>by
  by_cases e:x = blk
  ·subst e; exact rows_setRow hh rfl
  ·exact rowsOf_block (hblk x e)⟩
 refine hS.obj_set hB rfl rfl rfl (by simp) hblk (.typ 107 [.opq,buf'] #[p',v'] rfl (setRow_heap w blk #[p,v] #[p',v'] 107 _ hh) rfl (fun c hc=>?_) (fun _=>?_) fun i c u hi hu=>?_) hnf (rows_setRow hh rfl)
 ·simp only [List.mem_cons,List.not_mem_nil,or_false] at hc
  rcases hc with rfl | rfl
  ·exact .inl rfl
  ·exact hcl
 ·simpa using hp
 ·match i,hi,hu with
  | 0,hi,hu =>
   simp at hi hu; subst hi; subst hu
   exact ⟨.opq _ (by rcases hp with rfl | rfl <;> rfl),by rcases hp with rfl | rfl <;> rfl⟩
  | 1,hi,hu=>simp at hi hu; subst hi; subst hu; exact ⟨hv.le hle,h1⟩
  | i + 2,hi,hu=>simp at hi
end
theorem bld_check_used (b:Nat) (w:World) (h0:w.cell? ⟨b,0,none⟩ = some (.pointer (some ⟨b,0,none⟩))) :
  Calls PQ 102 #[.pointer (some ⟨b,0,none⟩)] w fun e w'=>e = .returned (.tuple #[])∧w' = w:=
 Any.Builder_copyCheck_used (ρ:=Tryz.lays156_ren) { Tryz.lays156 with } Tryz.Builder_Extra_156.toX72 b w h0
theorem bld_check_fresh (b:Nat) (w:World) (h0:w.cell? ⟨b,0,none⟩ = some (.pointer none)) (hsh:w.shape? b = some (107,2)) (hfz:w.frozen? ⟨b,0,none⟩ = false) :
  Calls PQ 102 #[.pointer (some ⟨b,0,none⟩)] w fun e w'=>e = .returned (.tuple #[])∧w' = w.setCell ⟨b,0,none⟩ (.pointer (some ⟨b,0,none⟩)):=
 Any.Builder_copyCheck_fresh (ρ:=Tryz.lays156_ren) { Tryz.lays156 with } Tryz.Builder_Extra_156.toX72 b w h0 hsh hfz
theorem setCell_row0 {w:World} {b:Nat} {p v q:Value} {T:TypeId} {fr:Nat × Nat} (h:w.heap[b]? = some (.cells #[p,v] T fr)):w.setCell ⟨b,0,none⟩ q = w.setRow b #[q,v]:=by
 unfold World.setCell World.setRow
 congr 1
 apply Array.ext_getElem?
 intro i
 simp only [Array.getElem?_modify]
 by_cases hi:b = i
 ·subst hi; simp [h]
 ·simp [hi]
theorem setCell_row1 {w:World} {b:Nat} {p v q:Value} {T:TypeId} {fr:Nat × Nat} (h:w.heap[b]? = some (.cells #[p,v] T fr)):w.setCell ⟨b,1,none⟩ q = w.setRow b #[p,q]:=by
 unfold World.setCell World.setRow
 congr 1
 apply Array.ext_getElem?
 intro i
 simp only [Array.getElem?_modify]
 by_cases hi:b = i
 ·subst hi; simp [h]
 ·simp [hi]
theorem wpList_append_run {P:Program} {w:World} {ops:Array Oper} {rest:List Oper} {o:Oper} {a:Act} {Q:Exit→Act→World→Prop} (hgd:o.guard = none) (sl x:Operand) (t u:TypeId)
  (ho:o.op = .call { callee:=.builtin .append,args:=#[sl,x],argTypes:=#[t,u] }) {v y v':Value} {w':World} (hs:a.eval sl = v) (hx:a.eval x = y) (hr:(Builtin.append_ #[t,u] o.type #[v,y]).run P w = .ok v' w')
  (h:wpList P ops Q rest (a.put o.dst v') w'):wpList P ops Q (o :: rest) a w:=by
 refine wpList_plain hgd fun K hK=>?_
 unfold Oper.wp execOp
 simp only [ho,resolve,invoke,builtin,Sem.run_bind,Sem.run_pure,Result.andThen_ok,List.map_toArray,List.map_cons,List.map_nil,hs,hx,hr]
 exact hK _ _ h
section
variable {N0 : Nat → Prop} {w0 : World} {I0 : Nat → Nat → Prop} {S : St} {E : Env} {w : World}
theorem check_walk {m:Int} {b blk k:Nat} {es:List AV} (hS:SR PQ (GQ m) N0 w0 I0 S E w) (hb:S.boxes[b]? = some (some (typB 107 [.opq,.sl 1 es (.tok k)]))) (hB:E.B b = some blk) :
  Calls PQ 102 #[.pointer (some ⟨blk,0,none⟩)] w fun e w1=>e = .returned (.tuple #[])∧SR PQ (GQ m) N0 w0 I0 S E w1∧Env.Le E E w w1∧∃ v,w1.heap[blk]? = some (.cells #[.pointer (some ⟨blk,0,none⟩),v] 107 (0,0))∧Rep E w1 (.sl 1 es (.tok k)) v∧v.oneCell' = true:=by
 obtain ⟨p,v,hh,hp,hv,h1⟩:=bld_at hS hb hB
 rcases hp with rfl | rfl
 ·refine (bld_check_fresh blk w (by simp [World.cell?,hh]) (by simp [World.shape?,hh]) (by simp [World.frozen?,hh])).mono ?_
  rintro e w1 ⟨rfl,rfl⟩
  rw [setCell_row0 hh]
  obtain ⟨hS1,hL⟩:=bld_set hS hb hB hh (.inr rfl) hv h1 (.inr rfl)
  have hid:S.boxes.set b (some (typB 107 [.opq,.sl 1 es (.tok k)])) = S.boxes:=by
   apply List.ext_getElem?
   intro i
   rw [List.getElem?_set]
   by_cases hi:b = i
   ·subst hi
    have:=(List.getElem?_eq_some_iff.1 hb).1
    rw [if_pos rfl,if_pos this,hb]
   ·simp [hi]
  rw [hid] at hS1
  exact ⟨rfl,hS1,hL,v,setRow_heap w blk _ _ 107 _ hh,hv.le hL,h1⟩
 ·refine (bld_check_used blk w (by simp [World.cell?,hh])).mono ?_
  rintro e w1 ⟨rfl,rfl⟩
  exact ⟨rfl,hS,Env.Le.refl _ _,v,hh,hv,h1⟩
set_option maxHeartbeats 4000000 in
set_option maxRecDepth 100000 in
theorem ws_walk {m:Int} {b blk k:Nat} {es:List AV} {s:List UInt8} {sb:ByteArray} (hS:SR PQ (GQ m) N0 w0 I0 S E w) (hb:S.boxes[b]? = some (some (typB 107 [.opq,.sl 1 es (.tok k)]))) (hB:E.B b = some blk)
  (hl:S.live[k]? = some (es.length,5)) (hs:sb.data.toList = s) (hne:s ≠ []) (hroom:(es.length + s.length) * 2≤70368744177664) :
  Calls PQ 50 #[.pointer (some ⟨blk,0,none⟩),.string sb] w fun e w'=>e = .returned (.tuple #[.int .i64 s.length,.nilIface]) ∧
   ∃ E',SR PQ (GQ m) N0 w0 I0 ⟨S.boxes.set b (some (typB 107 [.opq,.sl 1 (es ++ bytesL s) (.tok k)])),S.live.set k (es.length + s.length,5)⟩ E' w'∧Env.Le E E' w w':=by
 go_enter Tryz.func50,Tryz.ntmps50
 go_wp2_with fail
 refine (check_walk hS hb hB).mono ?_
 rintro e w1 ⟨rfl,hS1,hL1,v,hh,hv,h1⟩
 have hlen:(bytesL s).length = s.length:=List.length_map _
 have ha:appendA PQ S 22 9 (.sl 1 es (.tok k)) (.str s) = some (.sl 1 (es ++ bytesL s) (.tok k),{ S with live:=S.live.set k (es.length + s.length,5) }):=by
  have hu:PQ.underlying 22 = some (.slice 5):=by kernel_rfl
  have hu9:PQ.underlying 9 = some .string:=by kernel_rfl
  obtain ⟨i0,hi,hz0,hz1,hz2⟩:=info_parts Tryz.Builder_Extra_156.infoByte
  have hi:PQ.info? 5 = some i0:=hi
  have hb0:bytesL s ≠ []:=by cases s with
   | nil=>exact absurd rfl hne
   | cons c t=>simp
  have hl':S.live[k]? = some (es.length,5):=hl
  simp only [appendA,hu,hi,srcA,hu9,hz0,hz1,hz2,Option.map_some,if_true,hlen,Own.weak,hl',hb0,if_false]
  rw [if_pos ⟨.inl trivial,by decide,rfl⟩,if_pos (c:=(es.length + s.length) * (1 + 1)≤roomA) hroom,if_pos ⟨trivial,trivial⟩]
 obtain ⟨v2,w2,E2,hrun,hS2,hL2,hr2⟩:=appendA_run (ty:=22) hS1 ha hv (.str s sb hs)
 have c1:w1.cell? ⟨blk,1,none⟩ = some v:=by simp [World.cell?,hh]
 have hb2:=hb
 obtain ⟨p3,v3,hh3,hp3,_,_⟩:=bld_at hS2 hb ((hL1.trans hL2).B _ _ hB)
 have c3:w2.cell? ⟨blk,1,none⟩ = some v3:=by simp [World.cell?,hh3]
 have f3:w2.frozen? ⟨blk,1,none⟩ = false:=by simp [World.frozen?,hh3]
 have hone:v2.oneCell' = true:=by cases hr2 with | sl=>rfl
 have hcells:v2.cells = #[v2]:=by cases hr2 with | sl=>rfl
 have fin:=bld_set hS2 hb ((hL1.trans hL2).B _ _ hB) hh3 hp3 hr2 hone (.inr rfl)
 rw [← setCell_row1 hh3] at fin
 have FIN:=Lib.hid fin
 have HL:=Lib.hid (hL1.trans hL2)
 obtain ⟨A,n3,cap3,rfl⟩:∃ A n c,v2 = .slice A n c:=by cases hr2 with | sl=>exact ⟨_,_,_,rfl⟩
 clear ha hS hS1 hS2 hL1 hL2 hr2 hv fin hl hroom hh hp3 hb2 hone hcells
 go_wp2_with (at_builtin; refine wpList_append_run rfl _ _ 22 9 rfl rfl rfl hrun ?_)
 go_ret2
 refine ⟨?_,E2,FIN.out.1,HL.out.trans FIN.out.2⟩
 rw [size_data,hs]; rfl
end
def s50:ISpec:=fun args S=>match args with
 | [.ptr b 0,.str s] =>
  match S.boxes[b]? with
  | some (some [.tup [.int .i64 t,.agg [.opq,.sl sz es (.tok k)]]]) =>
   match S.live[k]? with
   | some (n,e)=>some ((t = 107∧sz = 1∧e = 5∧n = es.length)∧s ≠ []∧(es.length + s.length) * 2≤70368744177664,.tup [.int .i64 s.length,.lit .nilIface],⟨S.boxes.set b (some (typB 107 [.opq,.sl 1 (es ++ bytesL s) (.tok k)])),S.live.set k (es.length + s.length,5)⟩)
   | none=>none
  | _=>none
 | _=>none
theorem o50 (m:Int):ISpecOk PQ (GQ m) 50 s50:=by
 intro g args S r S' hr
 simp only [lowC] at hr
 by_cases e:g = 50
 ·subst e
  simp only [if_true] at hr
  split at hr
  case h_2=>cases hr
  case h_1 x hx =>
  split at hr
  case isFalse=>cases hr
  case isTrue hp =>
  simp only [Option.some.injEq] at hr
  unfold s50 at hx
  split at hx
  case h_2=>cases hx
  rename_i b s
  split at hx
  case h_2=>cases hx
  rename_i t sz es k hb
  split at hx
  case h_2=>cases hx
  rename_i n e hl
  injection hx with hx
  subst hx
  obtain ⟨⟨rfl,rfl,rfl,rfl⟩,hne,hroom⟩:=hp
  injection hr with e1 e2
  subst e1; subst e2
  refine ⟨goodQ (by kernel_rfl),fun N0 w0 I0 E w vs hS hn hv=>?_⟩
  obtain ⟨l⟩:=vs
  match l,hn with
  | [a,c],_ =>
   have ha:=hv 0 _ a rfl rfl
   obtain ⟨sb,rfl,hsb⟩:=rep_str (hv 1 _ c rfl rfl)
   cases ha with | ptr _ _ blk hB =>
   exact (ws_walk hS hb hB hl hsb hne hroom).mono fun e w' ⟨he,E',h1,h2⟩=>⟨_,E',he,h1,h2,rep_tup2 (.int _ _) (.lit _ rfl)⟩
 ·simp only [if_neg e] at hr
  cases hr
/-! String -/
section
variable {P : Program} {G : Glob} {N0 : Nat → Prop} {w0 : World} {I0 : Nat → Nat → Prop} {S : St} {E : Env} {w w' : World}
theorem SR.other (h:SR P G N0 w0 I0 S E w) (hl:S.live = []) {g:Nat} (hg1:¬ N0 g) (hg2:∀ id,E.B id ≠ some g) (hos:w'.os = w.os) (htp:w'.tape = w.tape) (hout:w'.output = w.output) (hsz:w'.heap.size = w.heap.size)
  (hblk:∀ k,k ≠ g→w'.heap[k]? = w.heap[k]?) (hcell:∀ o,w'.cell? ⟨g,o,none⟩ = w.cell? ⟨g,o,none⟩):SR P G N0 w0 I0 S E w'∧Env.Le E E w w':=by
 have hle:Env.Le E E w w':=⟨fun b o hi=>⟨hi,by
  by_cases e:b = g
  ·subst e; exact hcell o
  ·exact World.cell?_of_block (a:=⟨b,o,none⟩) (hblk b e)⟩,fun _ _ h=>h,fun _ _ _ h=>h,fun id x hx=>rowsOf_block (hblk x fun e=>hg2 id (e ▸ hx))⟩
 refine ⟨⟨h.below.trans ⟨hos,htp,hout,by omega,fun k hk=>hblk k (fun e=>hg1 (e ▸ hk))⟩,fun b hb'=>by have:=h.n0 b hb'; omega,fun b o hi=>by have:=h.Ilt b o hi; omega,h.Iold,fun id b he=>?_,h.Binj,fun id cs hi=>?_,h.glob.le hle,h.hole,h.Klt,fun t n v hk g hg=>by have hlt:=h.Kblk t n v hk g hg; omega,fun t n e ht=>?_⟩,hle⟩
 ·obtain ⟨a1,a2,a3,a4⟩:=h.Blt id b he
  exact ⟨a1,a2,by omega,a4⟩
 ·obtain ⟨blk,hB,hx⟩:=h.box id cs hi
  exact ⟨blk,hB,hx.le (hblk blk fun e=>hg2 id (e ▸ hB)) hle⟩
 ·rw [hl] at ht; cases ht
end
set_option maxHeartbeats 4000000 in
set_option maxRecDepth 100000 in
theorem str_exact (b g cap:Nat) (p:Value) (cur:Array Value) (l:List UInt8) (w:World) (h0:l ≠ []) (hbk:w.heap[b]? = some (.cells #[p,.slice (some ⟨g,0,none⟩) l.length cap] 107 (0,0))) (hg:w.heap[g]? = some (.cells cur 5 (0,0)))
  (hnc:l.length≤cap) (hcm:cap≤maxLen) (hcs:cur.size = cap) (hcur:∀ (j:Nat) (x:UInt8),l[j]? = some x→cur[j]? = some (Value.int .u8 x.toNat)) :
  Calls PQ 53 #[.pointer (some ⟨b,0,none⟩)] w fun e w'=>e = .returned (.string ⟨l.toArray⟩)∧w' = w.drew.freeze ⟨g,0,none⟩ l.length:=by
 have hl0:l.length ≠ 0:=by simpa using h0
 have c1:w.drew.cell? ⟨b,1,none⟩ = some (.slice (some ⟨g,0,none⟩) l.length cap):=by
  have:w.drew.heap[b]? = some (.cells #[p,.slice (some ⟨g,0,none⟩) l.length cap] 107 (0,0)):=hbk
  rw [Lib.cell_of_heap this]; rfl
 have hg':w.drew.heap[g]? = some (.cells cur 5 (0,0)):=hg
 have hSD:(Builtin.unsafeSliceData_ #[22] 161 #[.slice (some ⟨g,0,none⟩) l.length cap]).run PQ w.drew = .ok (.pointer (some ⟨g,0,none⟩)) w.drew:=Lib.run_unsafeSliceData_row _ _ _ _ _ _ (by omega)
 have hUS:(Builtin.unsafeString_ #[161,3] 9 #[.pointer (some ⟨g,0,none⟩),.int .i64 l.length]).run PQ w.drew = .ok (.string ⟨l.toArray⟩) (w.drew.freeze ⟨g,0,none⟩ l.length):=by
  refine Lib.run_unsafeString_row w.drew 161 3 9 5 (by kernel_rfl) (by kernel_rfl) g cur.size (by simp [World.shape?,hg']) l h0 (by omega) (by unfold maxLen at hcm; omega) ?_
  intro j x hx
  have:=hcur j x hx
  rw [show (⟨g,0,none⟩:Addr).add j = ⟨g,j,none⟩ from by unfold Addr.add; split <;> simp_all]
  simp [World.cell?,hg',this]
 clear hcur hg hbk hg'
 have mixed:PQ.follows .mixedOrders = true:=mixedQ
 go_enter Tryz.func53,Tryz.ntmps53
 go_wp2
 go_region_o
 all_goals (go_wp2; go_ret; exact ⟨rfl,rfl⟩)
theorem freeze_facts (w:World) (g n:Nat):(w.freeze ⟨g,0,none⟩ n).os = w.os∧(w.freeze ⟨g,0,none⟩ n).tape = w.tape∧(w.freeze ⟨g,0,none⟩ n).output = w.output∧(w.freeze ⟨g,0,none⟩ n).heap.size = w.heap.size ∧
  (∀ k,k ≠ g→(w.freeze ⟨g,0,none⟩ n).heap[k]? = w.heap[k]?)∧∀ o,(w.freeze ⟨g,0,none⟩ n).cell? ⟨g,o,none⟩ = w.cell? ⟨g,o,none⟩:=by
 unfold World.freeze
 split
 ·exact ⟨rfl,rfl,rfl,rfl,fun _ _=>rfl,fun _=>rfl⟩
 ·refine ⟨rfl,rfl,rfl,by simp,fun k hk=>?_,fun o=>?_⟩
  ·simp only [Array.getElem?_modify]
   rw [if_neg (fun e=>hk e.symm)]
  ·unfold World.cell?
   simp only [Array.getElem?_modify,if_true]
   cases w.heap[g]? with
   | none=>rfl
   | some ob=>cases ob <;> rfl
set_option maxRecDepth 100000 in
theorem str_walk {m:Int} {N0:Nat→Prop} {w0:World} {I0:Nat→Nat→Prop} {S:St} {E:Env} {w:World} {b blk:Nat} {l:List UInt8} (hS:SR PQ (GQ m) N0 w0 I0 S E w) (hb:S.boxes[b]? = some (some (typB 107 [.opq,.sl 1 (bytesL l) (.tok 0)]))) (hB:E.B b = some blk)
  (hl:S.live = [(l.length,5)]) (h0:l ≠ []) :
  Calls PQ 53 #[.pointer (some ⟨blk,0,none⟩)] w fun e w'=>e = .returned (.string ⟨l.toArray⟩)∧BelowQ N0 w0 w'∧w'.heap.size = w.heap.size:=by
 obtain ⟨p,v,hh,hp,hv,h1⟩:=bld_at hS hb hB
 have hl0:l.length ≠ 0:=by simpa using h0
 obtain ⟨v0,xs,sz,hsz,hown,hu,hK,hg⟩:=hS.live 0 l.length 5 (by rw [hl]; rfl)
 have hsz1:sz = 1:=by
  have:sizeA PQ 5 = some 1:=by kernel_rfl
  rw [this] at hsz; injection hsz with hsz; exact hsz.symm
 subst hsz1
 have hlen:(bytesL l).length = l.length:=List.length_map _
 cases hv with
 | sl _ _ _ A cap u hcap hmax hA hszs hcl ho hr h1u =>
 rw [hlen] at hcap
 have hv0:v0 = .slice A (bytesL l).length cap:=by
  have h3:E.K 0 (bytesL l).length (.slice A (bytesL l).length cap):=ho
  rw [hlen] at h3 ⊢
  exact (hu _ h3).symm
 subst hv0
 rw [hlen] at hown hK hg hh h1
 obtain ⟨⟨hx,hrow⟩,hnq⟩:=hown
 rcases hrow with ⟨_,hz⟩ | ⟨g,cap',cur,hvv,_,hgc,hnc,hcm,hcs,htk⟩
 ·exact absurd hz hl0
 injection hvv with e1 _ e2
 subst e1; subst e2
 rcases hA with hA | ⟨b',off,hA1,hA2⟩
 ·have:(bytesL l).length = 0:=by rw [hA]; rfl
  omega
 injection hA1 with hA1
 injection hA1 with e3 e4
 subst e3; subst e4
 have hcur:∀ (j:Nat) (x:UInt8),l[j]? = some x→cur[j]? = some (Value.int .u8 x.toNat):=fun j x hj=>by
  have he:(bytesL l)[j]? = some (.int .u8 x.toNat):=by rw [List.getElem?_map,hj]; rfl
  obtain ⟨_,h3⟩:=hA2 j _ 0 _ he rfl
  have h4:=rep_int (hr j _ 0 _ he rfl)
  rw [h4] at h3
  simp [World.cell?,hgc] at h3
  exact h3
 have hgg:(Value.slice (some ⟨g,0,none⟩) l.length cap).ownBlock = some g:=rfl
 obtain ⟨k1,k2,k3⟩:=hg g hgg
 refine (str_exact blk g cap p cur l w h0 hh hgc hnc hcm (by simpa using hcs) hcur).mono ?_
 rintro e w' ⟨rfl,rfl⟩
 obtain ⟨f1,f2,f3,f4,f5,f6⟩:=freeze_facts w.drew g l.length
 have f4':(w.drew.freeze ⟨g,0,none⟩ l.length).heap.size = w.heap.size:=f4
 exact ⟨rfl,hS.below.trans ⟨f1,f2,f3,by omega,fun k hk=>f5 k fun e=>hnq g hgg (e ▸ hk)⟩,f4⟩
end Go.Abs
namespace Go.Abs
open Go.Proofs
structure Ft where
 name:List UInt8
 entity:List UInt8
deriving DecidableEq
def ftC (f:Ft):List AV:=[.str f.name,.str f.entity,.opq,.opq,.opq,.opq,.opq,.opq,.opq,.opq,.opq,.opq,.opq,.opq,.opq,.opq,.opq,.opq]
def ftA (f:Ft):AV:=.agg (ftC f)
abbrev ftsL (l:List Ft):List AV:=l.map ftA
def unFt:AV→Option Ft
 | .agg [.str n,.str e,.opq,.opq,.opq,.opq,.opq,.opq,.opq,.opq,.opq,.opq,.opq,.opq,.opq,.opq,.opq,.opq]=>some ⟨n,e⟩
 | _=>none
def findF (l:List Ft) (n:List UInt8):Option Ft:=l.find? fun f=>f.name == n
def chkL (fs:List Ft) (en:List UInt8):List (List UInt8)→Int
 | []=>0
 | n :: l=>match findF fs n with
  | none=>4
  | some f=>if f.entity ≠ en then 5 else chkL fs en l
def chk (fs:List Ft) (r:Rq):Int:=if formB r then chkL fs r.entity r.feats else 240
def s17:Spec:=fun args=>match args with
 | [.agg [.sl _ _ .no,.sl sz fs .no,.sl _ _ .no,.sl _ _ .no],a]=>match unL unFt fs,unRqN a with
  | some l,some r=>if sz = 18∧l.length≤maxI∧keysOk r.labels then some (.int .i64 (chk l r),[]) else none
  | _,_=>none
 | _=>none
def shFt:Sh0→Sh1:=fun o=>.agg [.str,.str,o,o,o,o,o,o,o,o,o,o,o,o,o,o,o,o]
open Classical in
theorem tlax_of' {P:Program} {G:Glob} (hm:P.follows .mixedOrders = true) {f:FuncId} {s:Spec}
  (h:∀ args r,s args = some r→∃ (X:Shapes) (R:Callee) (C:CCallee) (fs:FuncId→Bool) (J:InC) (g:TCfg),CalleeOk P G R∧ICalleeOk P G (lowC C)∧InOk P G fs J∧TLaxOk P G X R C fs J g f args r):SpecOk P G f s:=by
 intro g args r lv hr
 by_cases e:g = f
 ·simp only [e,if_true] at hr
  obtain ⟨X,R,C,fs,J,gg,hR,hC,hJ,hh⟩:=h args _ hr
  have:=tlax_of (X:=X) (R:=R) (C:=C) (fs:=fs) (J:=J) (P:=P) (G:=G) (f:=f) (s:=fun xs=>if xs = args then some (r,lv) else none) hm hR hC hJ (fun xs r' h'=>by
   split at h'
   ·rename_i ea
    injection h' with h'
    subst ea; subst h'
    exact ⟨gg,hh⟩
   ·cases h')
  exact this g args r lv (by simp only [e,if_true])
 ·simp only [e,if_false] at hr
  cases hr
def shFnd:Sh × Option TypeId:=(.tup [shFt (.is .opq),.one .bool],none)
def X25:Shapes:=fun f=>match f with
 | 19 | 55 | 56 | 105=>some shFnd
 | 16=>some shB
 | f=>X24 f
def ctC (a:Nat) (ts:List AV) (l:List Ft) (b:Nat) (ds:List AV) (c:Nat) (ps:List AV):List AV:=[.sl a ts .no,.sl 18 (ftsL l) .no,.sl b ds .no,.sl c ps .no]
def fewB (r:Rq):Bool:=decide (r.feats.length≤100) && decide (r.labels.length≤300)
def s10:Spec:=fun args=>match args with
 | [a]=>match unRqN a with
  | some r=>some (.bool (fewB r),[])
  | none=>none
 | _=>none
def sTrue:Spec:=fun args=>match args with
 | []=>some (.bool true,[])
 | _=>none
theorem w10 (m:Int) (x:Rq) (r:AV):(pureW PQ (GQ m) X25 (tbl []) (itbl []) nAn [] 10 [rqA x] (r,[])) =
((decide ((↑(strsL x.feats).length:Int)≤(100:Int)) = true→(decide ((↑(lbsL x.labels).length:Int)≤(300:Int)) = true→RetIs (AV.bool true) [] (r,[]))∧(decide ((↑(lbsL x.labels).length:Int)≤(300:Int)) = false→RetIs (AV.bool false) [] (r,[])))∧(decide ((↑(strsL x.feats).length:Int)≤(100:Int)) = false→RetIs (AV.bool false) [] (r,[]))):=by kernel_rfl
abbrev w4c1 (x:Rq):List AV:=[AV.str x.entity,AV.sl 1 (strsL x.feats) Own.no,AV.sl 3 (lbsL x.labels) Own.no,AV.int IntKind.i64 x.seed,AV.int IntKind.i64 x.permille]
theorem w4 (m:Int) (a:Nat) (ts:List AV) (l:List Ft) (b:Nat) (ds:List AV) (c:Nat) (ps:List AV) (x:Rq) (r:AV):(pureW PQ (GQ m) X25 (tbl [(10,s10),(17,s17),(18,s17),(16,sTrue)]) (itbl []) nAn [] 4 [.agg (ctC a ts l b ds c ps),rqA x] (r,[])) =
(∃ (b_1:Bool),CallIs (tbl [(10,s10),(17,s17),(18,s17),(16,sTrue)] 10 [AV.agg (w4c1 x)]) (AV.bool b_1) []∧(b_1 = true→(decide ((↑(ftsL l).length:Int) > (60:Int)) = true→RetIs (AV.bool true) [] (r,[]))∧(decide ((↑(ftsL l).length:Int) > (60:Int)) = false→∃ (n:Int),CallIs (tbl [(10,s10),(17,s17),(18,s17),(16,sTrue)] 17 [AV.agg [AV.sl a ts Own.no,AV.sl 18 (ftsL l) Own.no,AV.sl b ds Own.no,AV.sl c ps Own.no],AV.agg (w4c1 x)]) (AV.int IntKind.i64 n) []∧∃ (n_1:Int),CallIs (tbl [(10,s10),(17,s17),(18,s17),(16,sTrue)] 18 [AV.agg [AV.sl a ts Own.no,AV.sl 18 (ftsL l) Own.no,AV.sl b ds Own.no,AV.sl c ps Own.no],AV.agg (w4c1 x)]) (AV.int IntKind.i64 n_1) []∧((n == n_1) = true→∃ (b:Bool),CallIs (some (AV.bool true,[])) (AV.bool b) []∧(b = true→RetIs (AV.bool true) [] (r,[]))∧(b = false→RetIs (AV.bool false) [] (r,[])))∧((n == n_1) = false→RetIs (AV.bool false) [] (r,[]))))∧(b_1 = false→RetIs (AV.bool true) [] (r,[]))):=by kernel_rfl
theorem p10 (m:Int) (x:Rq):PureOk PQ (GQ m) X25 (tbl []) (itbl []) nAn [] 10 [rqA x] (.bool (fewB x),[]):=by
 constructor
 rw [w10]
 have hn:(strsL x.feats).length = x.feats.length:=List.length_map _
 have hm:(lbsL x.labels).length = x.labels.length:=List.length_map _
 simp only [hn,hm]
 unfold fewB
 refine ⟨fun h=>⟨fun h2=>⟨?_⟩,fun h2=>⟨?_⟩⟩,fun h=>⟨?_⟩⟩
 ·rw [decide_eq_true (p:=x.feats.length≤100) (by have:=of_decide_eq_true h; omega),decide_eq_true (p:=x.labels.length≤300) (by have:=of_decide_eq_true h2; omega)]; rfl
 ·rw [decide_eq_false (p:=x.labels.length≤300) (by have:=of_decide_eq_false h2; omega),Bool.and_false]
 ·rw [decide_eq_false (p:=x.feats.length≤100) (by have:=of_decide_eq_false h; omega),Bool.false_and]
theorem o10 (m:Int):SpecOk PQ (GQ m) 10 s10:=spec_of (X:=X25) (m:=[]) mixedQ tbl_nil itbl_nil fun args r h=>by
 unfold s10 at h
 split at h
 case h_2=>cases h
 split at h
 case h_2=>cases h
 rename_i hu
 injection h with h; subst h
 rw [unRqN_inv _ _ hu]
 exact ⟨_,p10 m _⟩
theorem run46 (r:Rq):s46 [rqA r] = some (.bool (formB r),[]):=by simp only [s46,unRqN_ok]
theorem run33 {r:Rq} (h:keysOk r.labels = true):s33 [rqA r] = some (.bool (formB r),[]):=by simp only [s33,unRqN_ok,h,if_true]
theorem run10 (r:Rq):s10 [rqA r] = some (.bool (fewB r),[]):=by simp only [s10,unRqN_ok]
end Go.Abs
namespace Go.Abs
open Go.Proofs Go.RowKit
def s51:Spec:=fun args=>match args with
 | [.sl sz fs .no,.str sep]=>match unL unS fs with
  | some l=>if sz = 1∧l.length≤140737488355328∧(Lib.join l sep).length≤140737488355328 then some (.str (Lib.join l sep),[]) else none
  | none=>none
 | _=>none
theorem o51 (m:Int):SpecOk PQ (GQ m) 51 s51:=by
 intro g args r lv h E w vs hI hG hn' hv hcl
 simp only at h
 split at h
 case isFalse=>cases h
 case isTrue e =>
 subst e
 unfold s51 at h
 split at h
 case h_2=>cases h
 rename_i sz fs sep
 split at h
 case h_2=>cases h
 rename_i l hu
 split at h
 case isFalse=>cases h
 rename_i hc
 obtain ⟨rfl,hn,hj⟩:=hc
 simp only [Option.some.injEq,Prod.mk.injEq] at h
 obtain ⟨rfl,rfl⟩:=h
 obtain rfl:=unL_inv unS_inv hu
 obtain ⟨vl⟩:=vs
 match vl,hn' with
 | [a,c],_ =>
  obtain ⟨sb,rfl,hsb⟩:=rep_str (hv 1 _ c rfl rfl)
  have ha:=hv 0 _ a rfl rfl
  cases ha with
  | sl _ _ _ A cap u hcap hmax hA hszs hcl' ho hr h1u =>
  have hlen:(strsL l).length = l.length:=List.length_map _
  rcases hA with hA | ⟨bk,off,rfl,hA2⟩
  ·have:l = []:=by simpa using hA
   subst this
   refine .inl ⟨goodQ (by kernel_rfl),(Tryz.strings_Join_none A cap sb w).mono fun e w' ⟨he,hw⟩=>⟨_,he,?_⟩⟩
   subst hw
   exact res_below (Below.refl _ _) fun B K=>.str _ _ rfl
  ·-- the texts as byte arrays
   have hx:∀ (i:Nat) (x:List UInt8),l[i]? = some x→∃ b:ByteArray,b.data.toList = x∧w.cell? ⟨bk,off + i,none⟩ = some (.string b)∧E.I bk (off + i):=fun i x hi=>by
    have he:(strsL l)[i]? = some (.str x):=by rw [List.getElem?_map,hi]; rfl
    obtain ⟨h2,h3⟩:=hA2 i _ 0 _ he rfl
    obtain ⟨b,hb,hbx⟩:=rep_str (hr i _ 0 _ he rfl)
    rw [hb] at h3
    refine ⟨b,hbx,?_,?_⟩
    ·rw [← h3]; congr 2; omega
    ·have:off + i * 1 + 0 = off + i:=by omega
     rw [this] at h2; exact h2
   let bs:List ByteArray:=l.map fun x=>⟨x.toArray⟩
   have hbs:bs.map (fun x:ByteArray=>x.data.toList) = l:=by
    simp only [bs,List.map_map]
    conv=>rhs; rw [← List.map_id l]
    apply List.map_congr_left
    intro x _
    rfl
   have hbl:bs.length = l.length:=List.length_map _
   have hcells:∀ (j:Nat) (x:ByteArray),bs[j]? = some x→w.cell? ⟨bk,off + j,none⟩ = some (.string x):=fun j x hj=>by
    simp only [bs,List.getElem?_map] at hj
    cases hlj:l[j]? with
    | none=>rw [hlj] at hj; cases hj
    | some y =>
     rw [hlj] at hj
     injection hj with hj
     obtain ⟨b,hb,hc,_⟩:=hx j y hlj
     rw [hc]
     have:b = x:=by
      subst hj
      cases b with
      | mk d =>
       congr 1
       apply Array.toList_inj.1
       exact hb
     rw [this]
   by_cases hl0:l = []
   ·subst hl0
    refine .inl ⟨goodQ (by kernel_rfl),(Tryz.strings_Join_none (some ⟨bk,off,none⟩) cap sb w).mono fun e w' ⟨he,hw⟩=>⟨_,he,?_⟩⟩
    subst hw
    exact res_below (Below.refl _ _) fun B K=>.str _ _ rfl
   ·have hbk:bk < w.heap.size:=by
     cases l with
     | nil=>exact absurd rfl hl0
     | cons x t =>
      obtain ⟨_,_,_,h4⟩:=hx 0 x rfl
      exact hI _ _ h4
    have:=Tryz.strings_Join bk off cap bs sb w hcells hbk (by omega) (by rw [hlen] at hcap; omega) (by rw [hbs,hsb]; exact hj)
    rw [hbs,hsb,hbl] at this
    rw [hlen]
    refine .inl ⟨goodQ (by kernel_rfl),this.mono fun e w' ⟨he,hb⟩=>⟨_,he,?_⟩⟩
    exact res_below hb fun B K=>.str _ _ rfl
def lbT (x:Lb):List UInt8:=[34] ++ x.key ++ [34,32] ++ Lib.itoa x.event ++ [32] ++ Lib.itoa x.know
def fmtTail:List UInt8→List Lb→List UInt8
 | _,[]=>[]
 | b,x :: l=>b ++ lbT x ++ fmtTail [44,32] l
def fmtHead (r:Rq):List UInt8:=[111,102,32] ++ r.entity ++ [32,116,97,107,101,32] ++ Lib.join r.feats [44,32]
def fmtMid (r:Rq):List UInt8:=[32,115,101,101,100,32] ++ Lib.itoa r.seed ++ [32,107,101,101,112,32] ++ Lib.itoa r.permille
def fmtL (r:Rq):List UInt8:=if formB r then fmtHead r ++ fmtMid r ++ fmtTail [32,97,116,32] r.labels else []
def s14:Spec:=fun args=>match args with
 | [a]=>match unRqN a with
  | some r=>some (.str (fmtL r),[])
  | none=>none
 | _=>none
structure FX where
 i:Nat
 t:List UInt8
 bf:List UInt8
def shS:Sh × Option TypeId:=(.val (.one .str),none)
def XS:Shapes:=fun f=>match f with
 | 46=>some shB
 | 51 | 52=>some shS
 | _=>none
def stF (r:Rq) (t:List UInt8):St:=⟨[some [.str r.entity,.sl 1 (strsL r.feats) .no,.sl 3 (lbsL r.labels) .no,.int .i64 r.seed,.int .i64 r.permille],some (typB 107 [.opq,.sl 1 (bytesL t) (.tok 0)])],[(t.length,5)]⟩
def a14 (r:Rq):Anns:=⟨fun k=>if k = 8 then some { α:=FX,slots:=[1,3,4,30,31,32],nb:=2,vals:=fun x=>[.ptr 0 0,.ptr 1 0,.str x.bf,.sl 3 (lbsL r.labels) .no,.int .i64 r.labels.length,.int .i64 x.i],sS:=fun x=>stF r x.t,I:=fun x=>x.i≤r.labels.length∧x.t = fmtHead r ++ fmtMid r ++ fmtTail [32,97,116,32] (r.labels.take x.i)∧x.bf = (if x.i = 0 then [32,97,116,32] else [44,32]),μ:=fun x=>r.labels.length - x.i } else none,nA⟩
structure FmtEnd (r:Rq) (p:AV) (S:St) (n:Nat):Prop where
 p:p = .ptr 1 0
 S:∃ b0 t,S = ⟨[some b0,some (typB 107 [.opq,.sl 1 (bytesL t) (.tok 0)])],[(t.length,5)]⟩∧t = fmtL r∧t ≠ []
 n:n = 54
def tS:List (FuncId × Spec):=[(46,s46),(51,s51),(52,s52)]
end Go.Abs
namespace Go.Abs
open Go.Proofs
abbrev w14c1 (x:Rq):List AV:=[AV.str x.entity,AV.sl 1 (strsL x.feats) Own.no,AV.sl 3 (lbsL x.labels) Own.no,AV.int IntKind.i64 x.seed,AV.int IntKind.i64 x.permille]
abbrev w14c2 (x:Rq) (s:List UInt8):=[(111:UInt8),(102:UInt8),(32:UInt8)] ++ x.entity ++ [32,116,97,107,101,32] ++ s
abbrev w14c3 (s_1:List UInt8) (s_2:List UInt8):=(32:UInt8) :: (115:UInt8) :: (101:UInt8) :: (101:UInt8) :: (100:UInt8) :: (32:UInt8) :: s_1 ++ [32,107,101,101,112,32] ++ s_2
abbrev w14c4 (y:FX) (x:Rq):Prop:=y.i≤x.labels.length∧y.t = fmtHead x ++ fmtMid x ++ fmtTail [(32:UInt8),(97:UInt8),(116:UInt8),(32:UInt8)] (List.take y.i x.labels)∧y.bf = if y.i = (0:Nat) then [(32:UInt8),(97:UInt8),(116:UInt8),(32:UInt8)] else [(44:UInt8),(32:UInt8)]
abbrev w14c5 (y:FX) (x:Rq):List AV:=[AV.ptr 0 0,AV.ptr 1 0,AV.str y.bf,AV.sl 3 (lbsL x.labels) Own.no,AV.int IntKind.i64 (↑x.labels.length:Int),AV.int IntKind.i64 (↑y.i:Int)]
abbrev w14c6 (x:Rq) (y:FX):St:={ boxes:=[some (w14c1 x),some [AV.tup [AV.int IntKind.i64 107,AV.agg [AV.opq,AV.sl 1 (bytesL y.t) (Own.tok 0)]]]],live:=[(y.t.length,5)] }
theorem w14 (m:Int) (x:Rq) (r:AV):(tqW PQ idMk (GQ m) XS (tbl tS) (itbl [(50,s50)]) [4,5,10] (a14 x) [] 13 (fun T S=>FmtEnd x (T.getD 3 (.tup [])) S T.length) 14 [rqA x] (fun r0 _=>RetLax r0 (r,[]))) =
(∃ (b:Bool),CallIs (tbl [(46,s46),(51,s51),(52,s52)] 46 [AV.agg (w14c1 x)]) (AV.bool b) []∧(b = true→(3:Nat) + x.entity.length≤(9223372036854775807:Nat)∧([(111:UInt8),(102:UInt8),(32:UInt8)] ++ x.entity).length + (6:Nat)≤(9223372036854775807:Nat)∧∃ (s:List UInt8),CallIs (tbl [(46,s46),(51,s51),(52,s52)] 51 [AV.sl 1 (strsL x.feats) Own.no,AV.str [44,32]]) (AV.str s) []∧([(111:UInt8),(102:UInt8),(32:UInt8)] ++ x.entity ++ [32,116,97,107,101,32]).length + s.length≤(9223372036854775807:Nat)∧(((107:Int) = (107:Int)∧(1:Nat) = (1:Nat)∧(5:Nat) = (5:Nat)∧(0:Nat) = (0:Nat))∧[(111:UInt8),(102:UInt8),(32:UInt8)] ++ x.entity ++ [32,116,97,107,101,32] ++ s ≠ []∧((0:Nat) + (w14c2 x s).length) * (2:Nat)≤(70368744177664:Nat))∧∃ (s_1:List UInt8),CallIs (tbl [(46,s46),(51,s51),(52,s52)] 52 [I6 x.seed]) (AV.str s_1) []∧(6:Nat) + s_1.length≤(9223372036854775807:Nat)∧((32:UInt8) :: (115:UInt8) :: (101:UInt8) :: (101:UInt8) :: (100:UInt8) :: (32:UInt8) :: s_1).length + (6:Nat)≤(9223372036854775807:Nat)∧∃ (s_2:List UInt8),CallIs (tbl [(46,s46),(51,s51),(52,s52)] 52 [I6 x.permille]) (AV.str s_2) []∧((32:UInt8) :: (115:UInt8) :: (101:UInt8) :: (101:UInt8) :: (100:UInt8) :: (32:UInt8) :: s_1 ++ [32,107,101,101,112,32]).length + s_2.length≤(9223372036854775807:Nat)∧(((107:Int) = (107:Int)∧(1:Nat) = (1:Nat)∧(5:Nat) = (5:Nat)∧(0:Nat) + (w14c2 x s).length = ([] ++ bytesL (w14c2 x s)).length)∧(32:UInt8) :: (115:UInt8) :: (101:UInt8) :: (101:UInt8) :: (100:UInt8) :: (32:UInt8) :: s_1 ++ [32,107,101,101,112,32] ++ s_2 ≠ []∧(([] ++ bytesL (w14c2 x s)).length + (w14c3 s_1 s_2).length) * (2:Nat)≤(70368744177664:Nat))∧(∃ (y:FX),ValsAre [AV.ptr 0 0,AV.ptr 1 0,AV.str [32,97,116,32],AV.sl 3 (lbsL x.labels) Own.no,I6 (↑(lbsL x.labels).length:Int),I6 0] (w14c5 y x)∧StIs { boxes:=[some (w14c1 x),some [AV.tup [I6 107,AV.agg [AV.opq,AV.sl 1 ([] ++ bytesL (w14c2 x s) ++ bytesL (w14c3 s_1 s_2)) (Own.tok 0)]]]],live:=[(([] ++ bytesL (w14c2 x s)).length + (w14c3 s_1 s_2).length,5)] } (w14c6 x y)∧(w14c4 y x)∧True)∧∀ (x_1:FX),(x_1.i≤x.labels.length∧x_1.t = fmtHead x ++ fmtMid x ++ fmtTail [(32:UInt8),(97:UInt8),(116:UInt8),(32:UInt8)] (List.take x_1.i x.labels)∧x_1.bf = if x_1.i = (0:Nat) then [(32:UInt8),(97:UInt8),(116:UInt8),(32:UInt8)] else [(44:UInt8),(32:UInt8)])→(decide ((↑x_1.i:Int) < (↑x.labels.length:Int)) = true→((0:Int)≤(↑x_1.i:Int)∧(↑x_1.i:Int) < (↑(lbsL x.labels).length:Int))∧∃ (s:List UInt8),∃ (n:Int),∃ (n_1:Int),takeAt PQ 65 (lbsL x.labels) (↑x_1.i:Int).toNat 0 = some (AV.agg [AV.str s,I6 n,I6 n_1])∧x_1.bf.length + (1:Nat)≤(9223372036854775807:Nat)∧(x_1.bf ++ [34]).length + s.length≤(9223372036854775807:Nat)∧(x_1.bf ++ [34] ++ s).length + (2:Nat)≤(9223372036854775807:Nat)∧∃ (s_3:List UInt8),CallIs (tbl [(46,s46),(51,s51),(52,s52)] 52 [I6 n]) (AV.str s_3) []∧(x_1.bf ++ [34] ++ s ++ [34,32]).length + s_3.length≤(9223372036854775807:Nat)∧(x_1.bf ++ [34] ++ s ++ [34,32] ++ s_3).length + (1:Nat)≤(9223372036854775807:Nat)∧∃ (s_4:List UInt8),CallIs (tbl [(46,s46),(51,s51),(52,s52)] 52 [I6 n_1]) (AV.str s_4) []∧(x_1.bf ++ [34] ++ s ++ [34,32] ++ s_3 ++ [32]).length + s_4.length≤(9223372036854775807:Nat)∧(((107:Int) = (107:Int)∧(1:Nat) = (1:Nat)∧(5:Nat) = (5:Nat)∧x_1.t.length = (bytesL x_1.t).length)∧x_1.bf ++ [34] ++ s ++ [34,32] ++ s_3 ++ [32] ++ s_4 ≠ []∧((bytesL x_1.t).length + (x_1.bf ++ [34] ++ s ++ [34,32] ++ s_3 ++ [32] ++ s_4).length) * (2:Nat)≤(70368744177664:Nat))∧∃ (y:FX),ValsAre [AV.ptr 0 0,AV.ptr 1 0,AV.str [44,32],AV.sl 3 (lbsL x.labels) Own.no,I6 (↑x.labels.length:Int),I6 (IntKind.i64.wrap ((↑x_1.i:Int) + (1:Int)))] (w14c5 y x)∧StIs { boxes:=[some (w14c1 x),some [AV.tup [I6 107,AV.agg [AV.opq,AV.sl 1 (bytesL x_1.t ++ bytesL (x_1.bf ++ [34] ++ s ++ [34,32] ++ s_3 ++ [32] ++ s_4)) (Own.tok 0)]]]],live:=[((bytesL x_1.t).length + (x_1.bf ++ [34] ++ s ++ [34,32] ++ s_3 ++ [32] ++ s_4).length,5)] } (w14c6 x y)∧(w14c4 y x)∧x.labels.length - y.i < x.labels.length - x_1.i)∧(decide ((↑x_1.i:Int) < (↑x.labels.length:Int)) = false→FmtEnd x (AV.ptr 1 0) { boxes:=[some (w14c1 x),some [AV.tup [I6 107,AV.agg [AV.opq,AV.sl 1 (bytesL x_1.t) (Own.tok 0)]]]],live:=[(x_1.t.length,5)] } (54:Nat)))∧(b = false→RetLax (AV.str []) (r,[]))):=by kernel_rfl
end Go.Abs
namespace Go.Abs
open Go.Proofs Go.RowKit
theorem rs46 (x:Rq):tbl tS 46 [rqA x] = some (.bool (formB x),[]):=by
 show s46 [rqA x] = _
 simp only [s46,unRqN_ok]
theorem rs52 {n:Int} (h0:-9223372036854775808≤n) (h1:n≤9223372036854775807):tbl tS 52 [.int .i64 n] = some (.str (Lib.itoa n),[]):=by
 show s52 [.int .i64 n] = _
 simp only [s52]
 rw [if_pos ⟨h0,h1⟩]
theorem rs51 {l:List (List UInt8)} {sep:List UInt8} (h0:l.length≤140737488355328) (h1:(Lib.join l sep).length≤140737488355328):tbl tS 51 [.sl 1 (strsL l) .no,.str sep] = some (.str (Lib.join l sep),[]):=by
 show s51 [.sl 1 (strsL l) .no,.str sep] = _
 simp only [s51,strsL,unL_map unS_ok]
 rw [if_pos ⟨trivial,h0,h1⟩]
theorem takeLb0 (x:Lb):takeA (aggA PQ 65) (sizeA PQ 65) (lbA x).cells 0 = some (lbA x):=by kernel_rfl
theorem takeLb (l:List Lb) (i:Nat) (h:i < l.length):takeAt PQ 65 (lbsL l) i 0 = some (lbA l[i]):=by
 have e1:(lbsL l)[i]? = some (lbA l[i]):=by rw [List.getElem?_map,List.getElem?_eq_getElem h]; rfl
 unfold takeAt
 rw [e1]
 exact takeLb0 _
theorem tick_bd {n:Int} (h:tickB n = true):-9223372036854775808≤n∧n≤9223372036854775807:=by
 unfold tickB at h
 simp at h
 omega
structure FmtIn (r:Rq):Prop where
 en:r.entity.length≤24
 nf:r.feats.length≤8
 lf:∀ f ∈ r.feats,f.length≤24
 nl:r.labels.length≤256
 ll:∀ x ∈ r.labels,x.key.length≤32∧(-9223372036854775808≤x.event∧x.event≤9223372036854775807)∧-9223372036854775808≤x.know∧x.know≤9223372036854775807
 sd:-9223372036854775808≤r.seed∧r.seed≤9223372036854775807
 pm:-9223372036854775808≤r.permille∧r.permille≤9223372036854775807
theorem nameR_len {s:List UInt8} (h:nameR s = true):s.length≤24:=by
 simp [nameR] at h; omega
theorem featsOk_len:∀ {l seen:List (List UInt8)},featsOk seen l = true→∀ f ∈ l,f.length≤24
 | [],_,_,f,hf=>by cases hf
 | a :: l,seen,h,f,hf=>by
  simp only [featsOk,Bool.and_eq_true] at h
  rcases List.mem_cons.1 hf with rfl | hf
  ·exact nameR_len h.1.1
  ·exact featsOk_len h.2 f hf
theorem fmt_in {r:Rq} (h:formB r = true):FmtIn r:=by
 simp only [formB,headOk,Bool.and_eq_true,decide_eq_true_eq,List.all_eq_true] at h
 obtain ⟨⟨⟨⟨⟨⟨⟨⟨h1,h2⟩,h3⟩,h4⟩,h5⟩,h6⟩,h7⟩,h8⟩,h9⟩:=h
 refine ⟨nameR_len h1,h3,featsOk_len h8,h4,fun x hx=>?_,tick_bd h5,by omega,by omega⟩
 have:=h9 x hx
 simp only [lbOk,keyB,Bool.and_eq_true,decide_eq_true_eq] at this
 exact ⟨this.1.1.1.2,tick_bd this.1.2,tick_bd this.2⟩
theorem join_cons2 (a b:List UInt8) (l:List (List UInt8)) (sep:List UInt8):Lib.join (a :: b :: l) sep = a ++ (sep ++ Lib.join (b :: l) sep):=by
 rw [Lib.join_cons,Lib.join_cons]
 simp [Lib.joinTail]
theorem join_len (sep:List UInt8):∀ (l:List (List UInt8)),(∀ f ∈ l,f.length≤24)→(Lib.join l sep).length≤l.length * (24 + sep.length)
 | [],_=>by simp [Lib.join]
 | [a],h=>by have:=h a (by simp); simp [Lib.join]; omega
 | a :: b :: l,h=>by
  have h1:=h a (by simp)
  have h2:=join_len sep (b :: l) fun f hf=>h f (List.mem_cons_of_mem _ hf)
  rw [join_cons2,List.length_append,List.length_append]
  have h3:(a :: b :: l).length * (24 + sep.length) = (b :: l).length * (24 + sep.length) + (24 + sep.length):=by rw [List.length_cons,Nat.add_mul]; omega
  rw [h3]
  omega
theorem lbT_len {x:Lb} (h:x.key.length≤32∧(-9223372036854775808≤x.event∧x.event≤9223372036854775807)∧-9223372036854775808≤x.know∧x.know≤9223372036854775807):(lbT x).length≤100:=by
 have h1:=Lib.itoa_length_le x.event h.2.1.1 h.2.1.2
 have h2:=Lib.itoa_length_le x.know h.2.2.1 h.2.2.2
 simp only [lbT,List.length_append,List.length_cons,List.length_nil]
 omega
theorem fmtTail_len:∀ (l:List Lb) (b:List UInt8),b.length≤4→(∀ x ∈ l,(lbT x).length≤100)→(fmtTail b l).length≤l.length * 104
 | [],b,_,_=>by simp [fmtTail]
 | x :: l,b,hb,h=>by
  have h1:=h x (by simp)
  have h2:=fmtTail_len l [44,32] (by decide) fun y hy=>h y (List.mem_cons_of_mem _ hy)
  simp only [fmtTail,List.length_append,List.length_cons]
  rw [Nat.add_mul]
  omega
theorem fmtTail_snoc:∀ (l:List Lb) (b:List UInt8) (x:Lb),fmtTail b (l ++ [x]) = fmtTail b l ++ ((if l = [] then b else [44,32]) ++ lbT x)
 | [],b,x=>by simp [fmtTail]
 | y :: l,b,x=>by
  rw [List.cons_append,fmtTail,fmtTail_snoc l,fmtTail]
  by_cases h:l = []
  ·simp [h]
  ·simp [h]
theorem fmtHead_len {r:Rq} (h:FmtIn r):(fmtHead r).length≤300:=by
 have h1:=join_len [44,32] r.feats h.lf
 have h2:=h.en
 have h3:=h.nf
 simp only [fmtHead,List.length_append,List.length_cons,List.length_nil] at h1 ⊢
 omega
theorem fmtMid_len {r:Rq} (h:FmtIn r):(fmtMid r).length≤100:=by
 have h1:=Lib.itoa_length_le r.seed h.sd.1 h.sd.2
 have h2:=Lib.itoa_length_le r.permille h.pm.1 h.pm.2
 simp only [fmtMid,List.length_append,List.length_cons,List.length_nil]
 omega
def tO (x:Rq) (i:Nat):List UInt8:=fmtHead x ++ fmtMid x ++ fmtTail [32,97,116,32] (x.labels.take i)
theorem tO_len {x:Rq} (h:FmtIn x) (i:Nat):(tO x i).length≤30000:=by
 have h1:=fmtHead_len h
 have h2:=fmtMid_len h
 have h3:=fmtTail_len (x.labels.take i) [32,97,116,32] (by decide) fun y hy=>lbT_len (h.ll y (List.mem_of_mem_take hy))
 have h4:=h.nl
 have h5:(x.labels.take i).length≤256:=by simp; omega
 simp only [tO,List.length_append]
 omega
theorem tO_ne (x:Rq) (i:Nat):tO x i ≠ []:=by
 simp [tO,fmtHead]
theorem tO_succ {x:Rq} {i:Nat} (h:i < x.labels.length):tO x (i + 1) = tO x i ++ ((if i = 0 then [32,97,116,32] else [44,32]) ++ lbT x.labels[i]):=by
 unfold tO
 rw [List.take_succ_eq_append_getElem h,fmtTail_snoc,← List.append_assoc]
 by_cases h0:i = 0
 ·subst h0; simp
 ·have:x.labels.take i ≠ []:=by
   intro e
   have:=congrArg List.length e
   rw [List.length_take,List.length_nil] at this
   omega
  rw [if_neg this,if_neg h0]
theorem bytes_app (a b:List UInt8):bytesL a ++ bytesL b = bytesL (a ++ b):=by simp [bytesL]
theorem bytes_len (a:List UInt8):(bytesL a).length = a.length:=List.length_map _
theorem nonempty_of_len {l:List UInt8} (h:0 < l.length):l ≠ []:=fun e=>by rw [e] at h; cases h
theorem i64_small {n:Nat} (h:n≤100000):IntKind.i64.wrap ((n:Int) + 1) = ((n + 1:Nat):Int):=by
 exact wrapI (by omega)
theorem p14 (m:Int) (x:Rq):TqOk PQ (GQ m) XS (tbl tS) (itbl [(50,s50)]) [4,5,10] (a14 x) [] 13 (fun T S=>FmtEnd x (T.getD 3 (.tup [])) S T.length) 14 [rqA x] (.str (fmtL x)):=by
 constructor
 rw [w14]; unfold w14c6 w14c5 w14c4 w14c3 w14c2 w14c1 I6
 simp only [valsAre_iff,stIs_iff,callIs_iff,true_and,and_true]
 refine ⟨formB x,rs46 x,fun hb=>?_,fun hb=>?_⟩
 ·have h:=fmt_in hb
  have e1:=h.en
  have e2:=join_len [44,32] x.feats h.lf
  have e3:=h.nf
  have e4:=Lib.itoa_length_le x.seed h.sd.1 h.sd.2
  have e5:=Lib.itoa_length_le x.permille h.pm.1 h.pm.2
  have e6:(Lib.join x.feats [44,32]).length≤208:=by simp only [List.length_cons,List.length_nil] at e2; omega
  have nl:=h.nl
  have l0:(lbsL x.labels).length = x.labels.length:=List.length_map _
  refine ⟨by omega,by simp; omega,Lib.join x.feats [44,32],rs51 (by omega) (by omega),by simp; omega,⟨nonempty_of_len (by simp),by simp; omega⟩,Lib.itoa x.seed,rs52 h.sd.1 h.sd.2,by omega,by simp; omega,Lib.itoa x.permille,rs52 h.pm.1 h.pm.2,by simp; omega,⟨by simp,by simp; omega⟩,⟨⟨0,tO x 0,[32,97,116,32]⟩,by rw [l0]; rfl,?_,⟨Nat.zero_le _,rfl,rfl⟩⟩,fun y hy=>?_⟩
  ·have:tO x 0 = fmtHead x ++ fmtMid x:=by simp [tO,fmtTail]
   simp only [this,fmtHead,fmtMid]
   simp [bytesL]
   omega
  ·obtain ⟨i,t,bf⟩:=y
   obtain ⟨hi,ht,hbf⟩:=hy
   simp only at hi ht hbf
   have ht':t = tO x i:=ht
   subst ht'
   have tl:=tO_len h i
   dsimp only
   refine ⟨fun hlt=>?_,fun hge=>?_⟩
   ·have hlt:i < x.labels.length:=by have:=of_decide_eq_true hlt; omega
    have hbl:bf.length≤4:=by rw [hbf]; split <;> simp
    obtain ⟨k1,k2,k3⟩:=h.ll x.labels[i] (List.getElem_mem hlt)
    have k4:=Lib.itoa_length_le _ k2.1 k2.2
    have k5:=Lib.itoa_length_le _ k3.1 k3.2
    have tx:bf ++ [34] ++ x.labels[i].key ++ [34,32] ++ Lib.itoa x.labels[i].event ++ [32] ++ Lib.itoa x.labels[i].know = bf ++ lbT x.labels[i]:=by simp [lbT]
    have tn:tO x i ++ (bf ++ lbT x.labels[i]) = tO x (i + 1):=by rw [tO_succ hlt,hbf]
    have tl2:(tO x i).length + (bf ++ lbT x.labels[i]).length = (tO x (i + 1)).length:=by rw [← tn]; simp only [List.length_append]
    refine ⟨⟨by omega,by rw [l0]; omega⟩,x.labels[i].key,x.labels[i].event,x.labels[i].know,takeLb x.labels i hlt,by omega,by simp; omega,by simp; omega,Lib.itoa x.labels[i].event,rs52 k2.1 k2.2,by simp; omega,by simp; omega,Lib.itoa x.labels[i].know,rs52 k3.1 k3.2,by simp; omega,⟨(bytes_len _).symm,nonempty_of_len (by simp; omega),by simp; omega⟩,⟨i + 1,tO x (i + 1),[44,32]⟩,?_,?_,⟨hlt,rfl,by simp⟩,by show x.labels.length - (i + 1) < _; omega⟩
    ·rw [i64_small (by omega)]
    ·rw [tx,bytes_len,bytes_app,tn,tl2]
   ·have hge:i = x.labels.length:=by have:=of_decide_eq_false hge; omega
    subst hge
    refine ⟨rfl,⟨_,_,rfl,?_,tO_ne x _⟩,rfl⟩
    show tO x _ = _
    unfold tO fmtL
    rw [hb,if_pos rfl,List.take_length]
 ·unfold fmtL
  rw [hb]
  exact ⟨rfl,rfl,rfl⟩
end Go.Abs
namespace Go.Abs
open Go.Proofs Go.Wire
def rdT (bs:List UInt8) (at_:Int):Except Int (List UInt8 × Int):=if (textA bs at_).2.2 = 0 then .ok ((textA bs at_).1,(textA bs at_).2.1) else .error (textA bs at_).2.2
def rdI (bs:List UInt8) (at_:Int):Except Int (Int × Int):=if (sintA bs at_).2.2 = 0 then .ok ((sintA bs at_).1,(sintA bs at_).2.1) else .error (sintA bs at_).2.2
def rdN (most:Int) (bs:List UInt8) (at_:Int):Except Int (Nat × Int):=if (uintA bs at_).2.2 = 0 then (if most < (uintA bs at_).1 then .error 240 else .ok ((uintA bs at_).1.toNat,(uintA bs at_).2.1)) else .error (uintA bs at_).2.2
def rdTs (bs:List UInt8):Nat→Int→List (List UInt8)→Except Int (List (List UInt8) × Int)
 | 0,a,l=>.ok (l,a)
 | n + 1,a,l=>thn (rdT bs a) fun x=>rdTs bs n x.2 (l ++ [x.1])
def rdLb (bs:List UInt8) (a:Int):Except Int (Lb × Int):=thn (rdT bs a) fun k=>thn (rdI bs k.2) fun e=>thn (rdI bs e.2) fun n=>.ok (⟨k.1,e.1,n.1⟩,n.2)
def rdLs (bs:List UInt8):Nat→Int→List Lb→Except Int (List Lb × Int)
 | 0,a,l=>.ok (l,a)
 | n + 1,a,l=>thn (rdLb bs a) fun x=>rdLs bs n x.2 (l ++ [x.1])
/-! the continuations -/
def r16 (bs:List UInt8) (r:Rq) (a:Int):Except Int (Rq × Int):=thn (rdI bs a) fun x=>.ok ({ r with permille:=x.1 },x.2)
def r15 (bs:List UInt8) (r:Rq) (a:Int):Except Int (Rq × Int):=thn (rdI bs a) fun x=>r16 bs { r with seed:=x.1 } x.2
def rLs (bs:List UInt8) (n:Nat) (r:Rq) (a:Int):Except Int (Rq × Int):=thn (rdLs bs n a r.labels) fun x=>r15 bs { r with labels:=x.1 } x.2
def r8 (bs:List UInt8) (r:Rq) (a:Int):Except Int (Rq × Int):=thn (rdN 256 bs a) fun x=>rLs bs x.1 r x.2
def rFs (bs:List UInt8) (n:Nat) (r:Rq) (a:Int):Except Int (Rq × Int):=thn (rdTs bs n a r.feats) fun x=>r8 bs { r with feats:=x.1 } x.2
def r4 (bs:List UInt8) (r:Rq) (a:Int):Except Int (Rq × Int):=thn (rdN 8 bs a) fun x=>rFs bs x.1 r x.2
def readRq (bs:List UInt8) (a:Int):Except Int (Rq × Int):=thn (rdT bs a) fun x=>r4 bs ⟨x.1,[],[],0,0⟩ x.2
def resR (x:Except Int (Rq × Int)):AV:=
 match x with
 | .error e=>.tup [rqA zRq,.int .i64 0,.int .i64 e]
 | .ok (r,a)=>if formB r then .tup [rqA r,.int .i64 a,.int .i64 0] else .tup [rqA zRq,.int .i64 0,.int .i64 240]
/-! specs of step and many -/
def keptBy (es:List AV):List UInt8:=(unBytes es).getD []
theorem keptBy_ok (bs:List UInt8):keptBy (bytesL bs) = bs:=by unfold keptBy; rw [unBytes_mk]; rfl
def keptTx (es:List AV) (a:Int):List UInt8 × Int × Int:=textA (keptBy es) a
def keptIn (es:List AV) (a:Int):Int × Int × Int:=sintA (keptBy es) a
def keptUi (es:List AV) (a:Int):Int × Int × Int:=uintA (keptBy es) a
structure BytL (es:List AV):Prop where
 out:∃ bs,es = bytesL bs∧bs.length≤2000000
def inB (es:List AV) (a:Int):List AV:=[.sl 1 es .no,.int .i64 a]
def u4 (b0 b1 b2:List AV) (es:List AV) (a:Int) (lv:List (Nat × TypeId)):St:=⟨[some b0,some b1,some b2,some (inB es a)],lv⟩
def u5 (b0 b1 b2:List AV) (es:List AV) (a:Int) (b4:Option (List AV)) (lv:List (Nat × TypeId)):St:=⟨[some b0,some b1,some b2,some (inB es a),b4],lv⟩
def txOuts (es:List AV) (a:Int) (mk:Int→St):List POut:=
 [⟨(keptTx es a).2.2 = 0,none,.str (keptTx es a).1,mk (keptTx es a).2.1⟩,⟨(keptTx es a).2.2 ≠ 0,some (wrongV 0 (keptTx es a).2.2),.tup [],mk a⟩]
def inOuts (es:List AV) (a:Int) (mk:Int→St):List POut:=
 [⟨(keptIn es a).2.2 = 0,none,.int .i64 (keptIn es a).1,mk (keptIn es a).2.1⟩,⟨(keptIn es a).2.2 ≠ 0,some (wrongV 0 (keptIn es a).2.2),.tup [],mk a⟩]
def uiOuts (es:List AV) (a:Int) (mk:Int→St):List POut:=
 [⟨(keptUi es a).2.2 = 0,none,.int .u64 (keptUi es a).1,mk (keptUi es a).2.1⟩,⟨(keptUi es a).2.2 ≠ 0,some (wrongV 0 (keptUi es a).2.2),.tup [],mk a⟩]
def s65:PSpec:=fun args S=>match args,S with
 | [.ptr 3 0,.fn 34 []],⟨[some b0,some b1,some b2,some [.sl 1 es .no,.int .i64 a]],[]⟩=>some (BytL es∧pOk 4 b0∧pOk 4 b1∧pOk 4 b2,txOuts es a fun a=>u4 b0 b1 b2 es a [])
 | [.ptr 3 0,.fn 34 []],⟨[some b0,some b1,some b2,some [.sl 1 es .no,.int .i64 a]],[q]⟩=>some (BytL es∧pOk 4 b0∧pOk 4 b1∧pOk 4 b2,txOuts es a fun a=>u4 b0 b1 b2 es a [q])
 | [.ptr 3 0,.fn 34 []],⟨[some b0,some b1,some b2,some [.sl 1 es .no,.int .i64 a],none],[q,q2]⟩=>some (BytL es∧pOk 5 b0∧pOk 5 b1∧pOk 5 b2,txOuts es a fun a=>u5 b0 b1 b2 es a none [q,q2])
 | _,_=>none
def s67:PSpec:=fun args S=>match args,S with
 | [.ptr 3 0,.fn 68 []],⟨[some b0,some b1,some b2,some [.sl 1 es .no,.int .i64 a]],[q,q2]⟩=>some (BytL es∧pOk 4 b0∧pOk 4 b1∧pOk 4 b2,inOuts es a fun a=>u4 b0 b1 b2 es a [q,q2])
 | [.ptr 3 0,.fn 68 []],⟨[some b0,some b1,some b2,some [.sl 1 es .no,.int .i64 a],some b4],[q,q2]⟩=>some (BytL es∧pOk 5 b0∧pOk 5 b1∧pOk 5 b2∧pOk 5 b4,inOuts es a fun a=>u5 b0 b1 b2 es a (some b4) [q,q2])
 | _,_=>none
def s115:PSpec:=fun args S=>match args,S with
 | [.ptr 3 0,.fn 35 []],⟨[some b0,some b1,some b2,some [.sl 1 es .no,.int .i64 a]],[]⟩=>some (BytL es∧pOk 4 b0∧pOk 4 b1∧pOk 4 b2,uiOuts es a fun a=>u4 b0 b1 b2 es a [])
 | [.ptr 3 0,.fn 35 []],⟨[some b0,some b1,some b2,some [.sl 1 es .no,.int .i64 a]],[q]⟩=>some (BytL es∧pOk 4 b0∧pOk 4 b1∧pOk 4 b2,uiOuts es a fun a=>u4 b0 b1 b2 es a [q])
 | _,_=>none
def manyOuts (es:List AV) (a k:Int) (mk:Int→St):List POut:=
  [⟨(keptUi es a).2.2 = 0∧(keptUi es a).1≤k,none,.int .i64 (keptUi es a).1,mk (keptUi es a).2.1⟩,
   ⟨(keptUi es a).2.2 ≠ 0,some (wrongV 0 (keptUi es a).2.2),.tup [],mk a⟩,
   ⟨(keptUi es a).2.2 = 0∧k < (keptUi es a).1,some (wrongV 0 240),.tup [],mk (keptUi es a).2.1⟩]
def s66:PSpec:=fun args S=>match args,S with
 | [.ptr 3 0,.int .u64 k],⟨[some b0,some b1,some b2,some [.sl 1 es .no,.int .i64 a]],[]⟩=>some (BytL es∧0≤k∧k≤1000∧pOk 4 b0∧pOk 4 b1∧pOk 4 b2,manyOuts es a k fun a=>u4 b0 b1 b2 es a [])
 | [.ptr 3 0,.int .u64 k],⟨[some b0,some b1,some b2,some [.sl 1 es .no,.int .i64 a]],[q]⟩=>some (BytL es∧0≤k∧k≤1000∧pOk 4 b0∧pOk 4 b1∧pOk 4 b2,manyOuts es a k fun a=>u4 b0 b1 b2 es a [q])
 | _,_=>none
def XD:Shapes:=fun f=>match f with
 | 34=>some shTextR
 | 35=>some shUintR
 | 68=>some shIntR
 | 46=>some shB
 | _=>none
def tD:List (FuncId × Spec):=[(34,sReadText),(35,sReadUint),(68,s68)]
def fsD (f:FuncId):Bool:=f = 65 || f = 66 || f = 67 || f = 115
def g65:PCfg:={ ps:=[3],A:=nAn }
def g66:PCfg:={ ps:=[1,3],A:=nAn }
/-! Read -/
structure R28 where
 r:Rq
 n:Nat
 a:Int
def i0:List AV:=[.int .i64 0]
def rkN (x:R28):List AV:=[.str x.r.entity,.sl 0 [] .nil,.sl 0 [] .nil,.int .i64 0,.int .i64 0]
def rk0 (x:R28):List AV:=[.str x.r.entity,.sl 1 [] (.tok 0),.sl 0 [] .nil,.int .i64 0,.int .i64 0]
def rk1 (x:R28):List AV:=[.str x.r.entity,.sl 1 (strsL x.r.feats) (.tok 0),.sl 0 [] .nil,.int .i64 0,.int .i64 0]
def rk2 (x:R28):List AV:=[.str x.r.entity,.sl 1 (strsL x.r.feats) (.tok 0),.sl 3 [] (.tok 1),.int .i64 0,.int .i64 0]
def rk3 (x:R28):List AV:=[.str x.r.entity,.sl 1 (strsL x.r.feats) (.tok 0),.sl 3 (lbsL x.r.labels) (.tok 1),.int .i64 0,.int .i64 0]
def lk0 (_:R28):List (Nat × TypeId):=[(0,9)]
def lk1 (x:R28):List (Nat × TypeId):=[(x.r.feats.length,9)]
def lk2 (x:R28):List (Nat × TypeId):=[(x.r.feats.length,9),(0,65)]
def lk3 (x:R28):List (Nat × TypeId):=[(x.r.feats.length,9),(x.r.labels.length,65)]
def c28 (bs:List UInt8) (sl:List Nat) (vs:R28→List AV) (rk:R28→List AV) (lk:R28→List (Nat × TypeId)) (I:R28→Prop) (mb:List (Nat × TypeId)) (mu:R28→Nat):Option Ann:=
 some { α:=R28,slots:=[4,5,6,7] ++ sl,nb:=4,vals:=fun x=>[.ptr 0 0,.ptr 1 0,.ptr 2 0,.ptr 3 0] ++ vs x,sS:=fun x=>u4 (rk x) i0 i0 (bytesL bs) x.a (lk x),I:=I,μ:=mu,mintB:=mb }
def c28r (bs:List UInt8) (I7:R28→Prop):Option Ann:=
 some { α:=R28,slots:=[4,5,6,7,18,19],nb:=4,vals:=fun x=>[.ptr 0 0,.ptr 1 0,.ptr 2 0,.ptr 3 0,.int .i64 x.n,.int .i64 (x.r.feats.length - 1:Int)],sS:=fun x=>u4 (rk1 x) i0 i0 (bytesL bs) x.a (lk1 x),I:=fun x=>I7 x,μ:=fun _=>0,rel:=fun T y=>ValsAre [T.getD 18 (.tup []),T.getD 19 (.tup [])] [.int .i64 y.n,.int .i64 (y.r.feats.length - 1:Int)] }
def v0 (_:R28):List AV:=[]
def a28 (bs:List UInt8) (a0:Int):Anns:=⟨fun k=>match k with
 | 1000004=>c28 bs [] v0 rkN (fun _=>[]) (fun x=>readRq bs a0 = r4 bs x.r x.a∧x.r.feats = []∧x.r.labels = []∧x.r.seed = 0∧x.r.permille = 0) [] (fun _=>0)
 | 1000005=>c28 bs [18,19] (fun x=>[.int .i64 x.n,.int .i64 0]) rk0 lk0 (fun x=>readRq bs a0 = rFs bs x.n x.r x.a∧x.n≤8∧x.r.feats = []∧x.r.labels = []∧x.r.seed = 0∧x.r.permille = 0) [(1000,9)] (fun _=>0)
 | 5=>c28 bs [18,19] (fun x=>[.int .i64 x.n,.int .i64 x.r.feats.length]) rk1 lk1 (fun x=>readRq bs a0 = rFs bs (x.n - x.r.feats.length) x.r x.a∧x.r.feats.length≤x.n∧x.n≤8∧x.r.labels = []∧x.r.seed = 0∧x.r.permille = 0) [] (fun x=>x.n - x.r.feats.length)
 | 1000007=>c28r bs (fun x=>readRq bs a0 = rFs bs (x.n - x.r.feats.length) x.r x.a∧1≤x.r.feats.length∧x.r.feats.length≤x.n∧x.n≤8∧x.r.labels = []∧x.r.seed = 0∧x.r.permille = 0)
 | 1000008=>c28 bs [] v0 rk1 lk1 (fun x=>readRq bs a0 = r8 bs x.r x.a∧x.r.feats.length≤8∧x.r.labels = []∧x.r.seed = 0∧x.r.permille = 0) [] (fun _=>0)
 | 1000009=>c28 bs [30,31] (fun x=>[.int .i64 x.n,.int .i64 0]) rk2 lk2 (fun x=>readRq bs a0 = rLs bs x.n x.r x.a∧x.n≤256∧x.r.feats.length≤8∧x.r.labels = []∧x.r.seed = 0∧x.r.permille = 0) [(2000,65)] (fun _=>0)
 | 9=>c28 bs [30,31] (fun x=>[.int .i64 x.n,.int .i64 x.r.labels.length]) rk3 lk3 (fun x=>readRq bs a0 = rLs bs (x.n - x.r.labels.length) x.r x.a∧x.r.labels.length≤x.n∧x.n≤256∧x.r.feats.length≤8∧x.r.seed = 0∧x.r.permille = 0) [] (fun x=>x.n - x.r.labels.length)
 | 1000015=>c28 bs [] v0 rk3 lk3 (fun x=>readRq bs a0 = r15 bs x.r x.a∧x.r.seed = 0∧x.r.permille = 0) [] (fun _=>0)
 | _=>none,nA⟩
def g28 (bs:List UInt8) (a0:Int):TCfg:={ ps:=[3,4,6,8,10,11,12,15,16,18],A:=a28 bs a0,dr:=1 }
def t28:List (FuncId × Spec):=[(46,s46)]
abbrev J28:InC:=ptbl [(65,s65),(66,s66),(67,s67)] J0
end Go.Abs
namespace Go.Abs
open Go.RowKit
theorem SpecOk.own {P:Program} {G:Glob} {f:FuncId} {s s':Spec} (hs:SpecOk P G f s) (h:∀ args r',s' args = some r'→∃ r,s args = some r∧RetLax r.1 r'∧∀ L,RetLax (adopt L r.1) r'):SpecOk P G f s':=by
 intro g args r' lv hr
 by_cases e:g = f
 ·subst e
  simp only [if_true] at hr
  obtain ⟨r,h1,h2,h3⟩:=h args _ hr
  have hlv:lv = []:=h2.none
  subst hlv
  intro E w vs hI hG hn hv hcl
  refine (hs g args r.1 r.2 (by simp only [if_true]; exact h1) E w vs hI hG hn hv hcl).mono ?_
  rintro e w' ⟨v,he,I',k1,k2,k3,k4⟩
  refine ⟨v,he,I',k1,k2,k3,.inl ⟨rfl,fun B K=>?_⟩⟩
  rcases k4 with ⟨_,k4⟩ | ⟨n,e',hv',sz,xs,_,_,_,_,hrep⟩
  ·exact h2.lax.rep (k4 B K)
  ·exact rep_closed2 ((h3 0).lax.rep (hrep B (fun _ _ _=>True) 0 trivial)) h2.closed B K
 ·simp only [e,if_false] at hr
  cases hr
end Go.Abs
namespace Go.Abs
open Go.Proofs Go.Wire
def lbB (x:Lb):List UInt8:=textL x.key ++ uintL (zig x.event) ++ uintL (zig x.know)
def encRq (r:Rq):List UInt8:=textL r.entity ++ uintL r.feats.length ++ r.feats.flatMap textL ++ uintL r.labels.length ++ r.labels.flatMap lbB ++ uintL (zig r.seed) ++ uintL (zig r.permille)
def appRq (bs:List UInt8) (r:Rq):List UInt8:=if formB r then bs ++ encRq r else bs
def lbFit (n:Nat) (x:Lb):Prop:=n + x.key.length≤1900000∧i64W x.event∧i64W x.know
instance (n : Nat) (x : Lb) : Decidable (lbFit n x) := inferInstanceAs (Decidable (_ ∧ _))
def s72:Spec:=fun args=>match args with
 | [.sl sz es _,.agg [.str k,.int .i64 a,.int .i64 b]]=>if sz = 1∨es = [] then onBytes es fun bs=>if lbFit bs.length ⟨k,a,b⟩ then some (laxR (bs ++ lbB ⟨k,a,b⟩)) else none else none
 | _=>none
def sAppRq:Spec:=fun args=>match args with
 | [.sl sz es _,a]=>if sz = 1∨es = [] then onBytes es fun bs=>match unRqN a with
  | some r=>if bs.length≤900000∧keysOk r.labels = true then some (laxR (appRq bs r)) else none
  | none=>none
  else none
 | _=>none
def laxS (s:Spec):Spec:=fun args=>match s args with
 | some (.sl 1 es (.tok 0),_)=>some (.sl 1 es .no,[])
 | _=>none
theorem laxS_at {s:Spec} {args:List AV} {l:List UInt8} (h:s args = some (ownR l)):laxS s args = some (laxR l):=by
 unfold laxS; rw [h]; rfl
theorem laxS_ok {P:Program} {G:Glob} {f:FuncId} {s:Spec} (hs:SpecOk P G f s):SpecOk P G f (laxS s):=SpecOk.own hs fun args r' hr=>by
 unfold laxS at hr
 split at hr
 case h_2=>cases hr
 rename_i es lv h
 injection hr with hr; subst hr
 have hl:∀ o,Lax2 (.sl 1 es o) (.sl 1 es .no):=fun o=>⟨rfl,rfl,.inl rfl⟩
 exact ⟨_,h,⟨hl _,rfl,rfl⟩,fun L=>⟨hl _,rfl,rfl⟩⟩
def XA:Shapes:=fun f=>match f with
 | 74 | 119 | 120 | 121 | 122=>some shOwn
 | 25 | 26 | 62 | 73 | 76 | 72 | 75=>some shLax
 | 46 | 33=>some shB
 | _=>none
def bytesN (l:List UInt8):AV:=.sl 1 (bytesL l) .no
def hdB (bs:List UInt8) (r:Rq):List UInt8:=bs ++ textL r.entity ++ uintL r.feats.length
def mdB (bs:List UInt8) (r:Rq):List UInt8:=hdB bs r ++ r.feats.flatMap textL ++ uintL r.labels.length
def cutB1 (r:Rq) (sl:List Nat) (vs:List AV):Option Ann:=some { α:=Unit,slots:=sl,nb:=1,vals:=fun _=>vs,sS:=fun _=>stR r,I:=fun _=>True,μ:=fun _=>0,keep:=some 0 }
def a31 (bs:List UInt8) (r:Rq):Anns:=⟨fun k=>match k with
 | 1000004=>cutB1 r [3,4] [.ptr 0 0,bytesN (hdB bs r)]
 | 5=>some { α:=Nat,slots:=[3,4,23,24,25],nb:=1,vals:=fun i=>[.ptr 0 0,bytesN (hdB bs r ++ (r.feats.take i).flatMap textL),.sl 1 (strsL r.feats) .no,.int .i64 r.feats.length,.int .i64 i],sS:=fun _=>stR r,I:=fun i=>i≤r.feats.length,μ:=fun i=>r.feats.length - i,keep:=some 0 }
 | 1000010=>cutB1 r [3,4] [.ptr 0 0,bytesN (mdB bs r)]
 | 11=>some { α:=Nat,slots:=[3,4,40,41,42],nb:=1,vals:=fun i=>[.ptr 0 0,bytesN (mdB bs r ++ (r.labels.take i).flatMap lbB),.sl 3 (lbsL r.labels) .no,.int .i64 r.labels.length,.int .i64 i],sS:=fun _=>stR r,I:=fun i=>i≤r.labels.length,μ:=fun i=>r.labels.length - i,keep:=some 0 }
 | _=>none,nA⟩
theorem w72 (m:Int) (bs r:List UInt8) (x:Lb):(laxW PQ (GQ m) XA (tbl [(26,laxS s26),(25,laxS s25)]) (itbl []) nAn [] 72 [bytesA bs,.agg [.str x.key,.int .i64 x.event,.int .i64 x.know]] (laxR r)) =
(∃ (es:List AV),
  CallIs (tbl [((26:Nat),laxS s26),((25:Nat),laxS s25)] ((26:Nat)) [AV.sl ((1:Nat)) (bytesL bs) Own.no,AV.str x.key]) (AV.sl ((1:Nat)) es Own.no)
      [] ∧
    ∃ (es_1:List AV),
      CallIs (tbl [((26:Nat),laxS s26),((25:Nat),laxS s25)] ((25:Nat)) [AV.sl ((1:Nat)) es Own.no,AV.int IntKind.i64 x.event])
 (AV.sl ((1:Nat)) es_1 Own.no) [] ∧
        ∃ (es:List AV),
 CallIs (tbl [((26:Nat),laxS s26),((25:Nat),laxS s25)] ((25:Nat)) [AV.sl ((1:Nat)) es_1 Own.no,AV.int IntKind.i64 x.know])
 (AV.sl ((1:Nat)) es Own.no) [] ∧
 RetLax (AV.sl ((1:Nat)) es Own.no) (AV.sl ((1:Nat)) (bytesL r) Own.no,[])):=by kernel_rfl
theorem w31 (m:Int) (bs r:List UInt8) (x:Rq):(laxW PQ (GQ m) XA (tbl [(46,s46),(26,laxS s26),(62,laxS s62),(72,s72),(25,laxS s25)]) (itbl []) (a31 bs x) [] 31 [bytesA bs,rqA x] (laxR r)) =
(∃ (b:Bool),
  CallIs
      (tbl [((46:Nat),s46),((26:Nat),laxS s26),((62:Nat),laxS s62),((72:Nat),s72),((25:Nat),laxS s25)] ((46:Nat))
        [AV.agg
 [AV.str x.entity,AV.sl ((1:Nat)) (strsL x.feats) Own.no,AV.sl ((3:Nat)) (lbsL x.labels) Own.no,AV.int IntKind.i64 x.seed,
 AV.int IntKind.i64 x.permille]])
      (AV.bool b) [] ∧
    (b = true →
        (∃ (es:List AV),
 CallIs
 (tbl [((46:Nat),s46),((26:Nat),laxS s26),((62:Nat),laxS s62),((72:Nat),s72),((25:Nat),laxS s25)] ((26:Nat))
 [AV.sl ((1:Nat)) (bytesL bs) Own.no,AV.str x.entity])
 (AV.sl ((1:Nat)) es Own.no) [] ∧
 ∃ (es_1:List AV),
 CallIs
 (tbl [((46:Nat),s46),((26:Nat),laxS s26),((62:Nat),laxS s62),((72:Nat),s72),((25:Nat),laxS s25)] ((62:Nat))
 [AV.sl ((1:Nat)) es Own.no,AV.int IntKind.u64 (IntKind.u64.wrap (↑(strsL x.feats).length:Int))])
 (AV.sl ((1:Nat)) es_1 Own.no) [] ∧
 ∃ (_y:Unit),
 ValsAre [AV.ptr ((0:Nat)) ((0:Nat)),AV.sl ((1:Nat)) es_1 Own.no]
 [AV.ptr ((0:Nat)) ((0:Nat)),AV.sl ((1:Nat)) (bytesL (hdB bs x)) Own.no] ∧
 StIs
 { boxes:=[some [AV.str x.entity,AV.sl ((1:Nat)) (strsL x.feats) Own.no,AV.sl ((3:Nat)) (lbsL x.labels) Own.no,AV.int IntKind.i64 x.seed,AV.int IntKind.i64 x.permille]],live:=[] }
 { boxes:=[some [AV.str x.entity,AV.sl ((1:Nat)) (strsL x.feats) Own.no,AV.sl ((3:Nat)) (lbsL x.labels) Own.no,AV.int IntKind.i64 x.seed,AV.int IntKind.i64 x.permille]],live:=[] } ∧
 True∧True) ∧
 ∀ (_x_1:Unit),
 True →
 True →
 (∃ (y:Nat),
 ValsAre
 [AV.ptr ((0:Nat)) ((0:Nat)),AV.sl ((1:Nat)) (bytesL (hdB bs x)) Own.no,AV.sl ((1:Nat)) (strsL x.feats) Own.no,
 AV.int IntKind.i64 (↑(strsL x.feats).length:Int),AV.int IntKind.i64 (0:Int)]
 [AV.ptr ((0:Nat)) ((0:Nat)),AV.sl ((1:Nat)) (bytesL (hdB bs x ++ List.flatMap textL (List.take y x.feats))) Own.no,
 AV.sl ((1:Nat)) (strsL x.feats) Own.no,AV.int IntKind.i64 (↑x.feats.length:Int),AV.int IntKind.i64 (↑y:Int)] ∧
 StIs
 { boxes:=[some [AV.str x.entity,AV.sl ((1:Nat)) (strsL x.feats) Own.no,AV.sl ((3:Nat)) (lbsL x.labels) Own.no,AV.int IntKind.i64 x.seed,AV.int IntKind.i64 x.permille]],live:=[] }
 { boxes:=[some [AV.str x.entity,AV.sl ((1:Nat)) (strsL x.feats) Own.no,AV.sl ((3:Nat)) (lbsL x.labels) Own.no,AV.int IntKind.i64 x.seed,AV.int IntKind.i64 x.permille]],live:=[] } ∧
 y≤x.feats.length∧True) ∧
 ∀ (x_2:Nat),
 x_2≤x.feats.length →
 (decide ((↑x_2:Int) < (↑x.feats.length:Int)) = true →
 ((0:Int)≤(↑x_2:Int)∧(↑x_2:Int) < (↑(strsL x.feats).length:Int)) ∧
 ∃ (s:List UInt8),
 takeAt PQ ((9:Nat)) (strsL x.feats) (↑x_2:Int).toNat ((0:Nat)) = some (AV.str s) ∧
 ∃ (es:List AV),
 CallIs
 (tbl [((46:Nat),s46),((26:Nat),laxS s26),((62:Nat),laxS s62),((72:Nat),s72),((25:Nat),laxS s25)]
 ((26:Nat)) [AV.sl ((1:Nat)) (bytesL (hdB bs x ++ List.flatMap textL (List.take x_2 x.feats))) Own.no,AV.str s])
 (AV.sl ((1:Nat)) es Own.no) [] ∧
 ∃ (y:Nat),
 ValsAre
 [AV.ptr ((0:Nat)) ((0:Nat)),AV.sl ((1:Nat)) es Own.no,AV.sl ((1:Nat)) (strsL x.feats) Own.no,
 AV.int IntKind.i64 (↑x.feats.length:Int),AV.int IntKind.i64 (IntKind.i64.wrap ((↑x_2:Int) + (1:Int)))]
 [AV.ptr ((0:Nat)) ((0:Nat)),
 AV.sl ((1:Nat)) (bytesL (hdB bs x ++ List.flatMap textL (List.take y x.feats))) Own.no,
 AV.sl ((1:Nat)) (strsL x.feats) Own.no,AV.int IntKind.i64 (↑x.feats.length:Int),
 AV.int IntKind.i64 (↑y:Int)] ∧
 StIs
 { boxes:=[some [AV.str x.entity,AV.sl ((1:Nat)) (strsL x.feats) Own.no,AV.sl ((3:Nat)) (lbsL x.labels) Own.no,AV.int IntKind.i64 x.seed,AV.int IntKind.i64 x.permille]],live:=[] }
 { boxes:=[some [AV.str x.entity,AV.sl ((1:Nat)) (strsL x.feats) Own.no,AV.sl ((3:Nat)) (lbsL x.labels) Own.no,AV.int IntKind.i64 x.seed,AV.int IntKind.i64 x.permille]],live:=[] } ∧
 y≤x.feats.length∧x.feats.length - y < x.feats.length - x_2) ∧
 (decide ((↑x_2:Int) < (↑x.feats.length:Int)) = false →
 (∃ (es:List AV),
 CallIs
 (tbl [((46:Nat),s46),((26:Nat),laxS s26),((62:Nat),laxS s62),((72:Nat),s72),((25:Nat),laxS s25)]
 ((62:Nat))
 [AV.sl ((1:Nat)) (bytesL (hdB bs x ++ List.flatMap textL (List.take x_2 x.feats))) Own.no,
 AV.int IntKind.u64 (IntKind.u64.wrap (↑(lbsL x.labels).length:Int))])
 (AV.sl ((1:Nat)) es Own.no) [] ∧
 ∃ (_y:Unit),
 ValsAre [AV.ptr ((0:Nat)) ((0:Nat)),AV.sl ((1:Nat)) es Own.no]
 [AV.ptr ((0:Nat)) ((0:Nat)),AV.sl ((1:Nat)) (bytesL (mdB bs x)) Own.no] ∧
 StIs
 { boxes:=[some [AV.str x.entity,AV.sl ((1:Nat)) (strsL x.feats) Own.no,AV.sl ((3:Nat)) (lbsL x.labels) Own.no,AV.int IntKind.i64 x.seed,AV.int IntKind.i64 x.permille]],live:=[] }
 { boxes:=[some [AV.str x.entity,AV.sl ((1:Nat)) (strsL x.feats) Own.no,AV.sl ((3:Nat)) (lbsL x.labels) Own.no,AV.int IntKind.i64 x.seed,AV.int IntKind.i64 x.permille]],live:=[] } ∧
 True∧True) ∧
 ∀ (_x_3:Unit),
 True →
 True →
 (∃ (y:Nat),
 ValsAre
 [AV.ptr ((0:Nat)) ((0:Nat)),AV.sl ((1:Nat)) (bytesL (mdB bs x)) Own.no,
 AV.sl ((3:Nat)) (lbsL x.labels) Own.no,AV.int IntKind.i64 (↑(lbsL x.labels).length:Int),
 AV.int IntKind.i64 (0:Int)]
 [AV.ptr ((0:Nat)) ((0:Nat)),
 AV.sl ((1:Nat)) (bytesL (mdB bs x ++ List.flatMap lbB (List.take y x.labels))) Own.no,
 AV.sl ((3:Nat)) (lbsL x.labels) Own.no,AV.int IntKind.i64 (↑x.labels.length:Int),
 AV.int IntKind.i64 (↑y:Int)] ∧
 StIs
 { boxes:=[some [AV.str x.entity,AV.sl ((1:Nat)) (strsL x.feats) Own.no,AV.sl ((3:Nat)) (lbsL x.labels) Own.no,AV.int IntKind.i64 x.seed,AV.int IntKind.i64 x.permille]],live:=[] }
 { boxes:=[some [AV.str x.entity,AV.sl ((1:Nat)) (strsL x.feats) Own.no,AV.sl ((3:Nat)) (lbsL x.labels) Own.no,AV.int IntKind.i64 x.seed,AV.int IntKind.i64 x.permille]],live:=[] } ∧
 y≤x.labels.length∧True) ∧
 ∀ (x_4:Nat),
 x_4≤x.labels.length →
 (decide ((↑x_4:Int) < (↑x.labels.length:Int)) = true →
 ((0:Int)≤(↑x_4:Int)∧(↑x_4:Int) < (↑(lbsL x.labels).length:Int)) ∧
 ∃ (s:List UInt8),
 ∃ (n:Int),
 ∃ (n_1:Int),
 takeAt PQ ((65:Nat)) (lbsL x.labels) (↑x_4:Int).toNat ((0:Nat)) =
 some (AV.agg [AV.str s,AV.int IntKind.i64 n,AV.int IntKind.i64 n_1]) ∧
 ∃ (es:List AV),
 CallIs
 (tbl
 [((46:Nat),s46),((26:Nat),laxS s26),((62:Nat),laxS s62),((72:Nat),s72),
 ((25:Nat),laxS s25)]
 ((72:Nat))
 [AV.sl ((1:Nat)) (bytesL (mdB bs x ++ List.flatMap lbB (List.take x_4 x.labels))) Own.no,
 AV.agg [AV.str s,AV.int IntKind.i64 n,AV.int IntKind.i64 n_1]])
 (AV.sl ((1:Nat)) es Own.no) [] ∧
 ∃ (y:Nat),
 ValsAre
 [AV.ptr ((0:Nat)) ((0:Nat)),AV.sl ((1:Nat)) es Own.no,
 AV.sl ((3:Nat)) (lbsL x.labels) Own.no,AV.int IntKind.i64 (↑x.labels.length:Int),
 AV.int IntKind.i64 (IntKind.i64.wrap ((↑x_4:Int) + (1:Int)))]
 [AV.ptr ((0:Nat)) ((0:Nat)),
 AV.sl ((1:Nat)) (bytesL (mdB bs x ++ List.flatMap lbB (List.take y x.labels))) Own.no,
 AV.sl ((3:Nat)) (lbsL x.labels) Own.no,AV.int IntKind.i64 (↑x.labels.length:Int),
 AV.int IntKind.i64 (↑y:Int)] ∧
 StIs
 { boxes:=[some [AV.str x.entity,AV.sl ((1:Nat)) (strsL x.feats) Own.no,AV.sl ((3:Nat)) (lbsL x.labels) Own.no,AV.int IntKind.i64 x.seed,AV.int IntKind.i64 x.permille]],live:=[] }
 { boxes:=[some [AV.str x.entity,AV.sl ((1:Nat)) (strsL x.feats) Own.no,AV.sl ((3:Nat)) (lbsL x.labels) Own.no,AV.int IntKind.i64 x.seed,AV.int IntKind.i64 x.permille]],live:=[] } ∧
 y≤x.labels.length∧x.labels.length - y < x.labels.length - x_4) ∧
 (decide ((↑x_4:Int) < (↑x.labels.length:Int)) = false →
 ∃ (es:List AV),
 CallIs
 (tbl
 [((46:Nat),s46),((26:Nat),laxS s26),((62:Nat),laxS s62),((72:Nat),s72),
 ((25:Nat),laxS s25)]
 ((25:Nat))
 [AV.sl ((1:Nat)) (bytesL (mdB bs x ++ List.flatMap lbB (List.take x_4 x.labels))) Own.no,
 AV.int IntKind.i64 x.seed])
 (AV.sl ((1:Nat)) es Own.no) [] ∧
 ∃ (es_1:List AV),
 CallIs
 (tbl
 [((46:Nat),s46),((26:Nat),laxS s26),((62:Nat),laxS s62),((72:Nat),s72),
 ((25:Nat),laxS s25)]
 ((25:Nat)) [AV.sl ((1:Nat)) es Own.no,AV.int IntKind.i64 x.permille])
 (AV.sl ((1:Nat)) es_1 Own.no) [] ∧
 RetLax (AV.sl ((1:Nat)) es_1 Own.no) (AV.sl ((1:Nat)) (bytesL r) Own.no,[])))) ∧
      (b = false→RetLax (AV.sl ((1:Nat)) (bytesL bs) Own.no) (AV.sl ((1:Nat)) (bytesL r) Own.no,[]))):=by kernel_rfl
theorem run26 {bs s:List UInt8} {o:Own} (h:bs.length≤2000000) (hs:s.length≤2000000):laxS s26 [.sl 1 (bytesL bs) o,.str s] = some (laxR (bs ++ textL s)):=laxS_at (s26_at h hs)
theorem run25 {bs:List UInt8} {n:Int} {o:Own} (h:bs.length≤2000000) (hn:i64W n):laxS s25 [.sl 1 (bytesL bs) o,.int .i64 n] = some (laxR (bs ++ uintL (zig n))):=laxS_at (s25_at h hn)
theorem run62 {bs:List UInt8} {n:Nat} {o:Own} (h:bs.length≤2000000) (hn:n≤2000000):laxS s62 [.sl 1 (bytesL bs) o,.int .u64 (IntKind.u64.wrap (n:Int))] = some (laxR (bs ++ uintL n)):=by
 have e:IntKind.u64.wrap (n:Int) = n:=by rw [wrapu64]; omega
 rw [e]
 have:=s62_at (o:=o) h (u64Ok_nat (n:=n) (by omega))
 rw [Int.toNat_natCast] at this
 exact laxS_at this
theorem text_len {s:List UInt8} (h:s.length≤1900000):(textL s).length≤s.length + 10:=by
 have:=uintL_len10 (n:=s.length) (by omega)
 simp only [textL,List.length_append]; omega
theorem lbB_len {x:Lb} {n:Nat} (h:lbFit n x):(lbB x).length≤x.key.length + 30:=by
 have h1:=text_len (s:=x.key) (by have:=h.1; omega)
 have h2:=zig_len h.2.1
 have h3:=zig_len h.2.2
 simp only [lbB,List.length_append]; omega
theorem lax_own {l l':List UInt8} {o:Own} (h:l = l'):RetLax (.sl 1 (bytesL l) o) (laxR l'):=by
 subst h; exact lax_bytes
theorem p72 (m:Int) (bs:List UInt8) (x:Lb) (h:lbFit bs.length x):LaxOk PQ (GQ m) XA (tbl [(26,laxS s26),(25,laxS s25)]) (itbl []) nAn [] 72 [bytesA bs,.agg [.str x.key,.int .i64 x.event,.int .i64 x.know]] (laxR (bs ++ lbB x)):=by
 have h0:=h.1
 have h1:=text_len (s:=x.key) (by omega)
 have h2:=zig_len h.2.1
 constructor
 rw [w72]
 refine ⟨_,⟨run26 (o:=.no) (by omega) (by omega)⟩,_,⟨run25 (o:=.no) (by simp only [List.length_append]; omega) h.2.1⟩,_,⟨run25 (o:=.no) (by simp only [List.length_append]; omega) h.2.2⟩,lax_own ?_⟩
 simp only [lbB,List.append_assoc]
theorem o72 (m:Int):SpecOk PQ (GQ m) 72 s72:=lax_ofW (X:=XA) (m:=[]) [1] mixedQ (tbl_cons (laxS_ok (o26 m)) (tbl_cons (laxS_ok (o25 m)) tbl_nil)) itbl_nil fun args r h'=>by
 unfold s72 onBytes at h'
 split at h'
 ·split at h'
  ·rename_i hz
   split at h'
   ·rename_i bs hb
    dsimp only at h'
    split at h'
    ·rename_i hp
     injection h' with h'; subst h'
     simp only [wkL,wk1 hz hb]
     exact ⟨nAn,p72 m _ ⟨_,_,_⟩ hp⟩
    ·cases h'
   ·cases h'
  ·cases h'
 ·cases h'
theorem run72 {bs:List UInt8} {x:Lb} {o:Own} (h:lbFit bs.length x):s72 [.sl 1 (bytesL bs) o,.agg [.str x.key,.int .i64 x.event,.int .i64 x.know]] = some (laxR (bs ++ lbB x)):=by
 simp only [s72,onBytes,unBytes_mk,true_or,if_true]
 rw [if_pos h]
theorem flat_len {α:Type} (f:α→List UInt8) (k:Nat):∀ l:List α,(∀ x ∈ l,(f x).length≤k)→(l.flatMap f).length≤l.length * k
 | [],_=>by simp
 | x :: l,h=>by
  have h1:=h x List.mem_cons_self
  have h2:=flat_len f k l fun y hy=>h y (List.mem_cons_of_mem _ hy)
  simp only [List.flatMap_cons,List.length_append,List.length_cons,Nat.add_mul]
  omega
theorem flat_step {α:Type} (f:α→List UInt8) {l:List α} {i:Nat} (h:i < l.length):(l.take (i + 1)).flatMap f = (l.take i).flatMap f ++ f l[i]:=by
 rw [List.take_succ_eq_append_getElem h,List.flatMap_append]
 simp
structure EncIn (bs:List UInt8) (r:Rq):Prop where
 en:r.entity.length≤24
 nf:r.feats.length≤8
 nl:r.labels.length≤256
 lf:∀ f ∈ r.feats,f.length≤24
 ll:∀ x ∈ r.labels,∀ n,n≤1800000→lbFit n x
 h1:(bs ++ textL r.entity).length≤bs.length + 40
 h2:(hdB bs r).length≤bs.length + 50
 h3:∀ i,(hdB bs r ++ (r.feats.take i).flatMap textL).length≤bs.length + 400
 h4:(mdB bs r).length≤bs.length + 410
 h5:∀ i,(mdB bs r ++ (r.labels.take i).flatMap lbB).length≤bs.length + 20000
 sd:i64W r.seed
 pm:i64W r.permille
theorem enc_in (bs:List UInt8) {r:Rq} (h:formB r = true):EncIn bs r:=by
 have F:=fmt_in h
 have e1:=text_len (s:=r.entity) (by have:=F.en; omega)
 have e2:=uintL_len10 (n:=r.feats.length) (by have:=F.nf; omega)
 have e3:=uintL_len10 (n:=r.labels.length) (by have:=F.nl; omega)
 have k1:∀ f ∈ r.feats,(textL f).length≤34:=fun f hf=>by
  have:=F.lf f hf
  have:=text_len (s:=f) (by omega)
  omega
 have ll:∀ x ∈ r.labels,∀ n,n≤1800000→lbFit n x:=fun x hx n hn=>by
  obtain ⟨a,b,c⟩:=F.ll x hx
  exact ⟨by omega,⟨b.1,by have:=b.2; omega⟩,⟨c.1,by have:=c.2; omega⟩⟩
 have k2:∀ x ∈ r.labels,(lbB x).length≤62:=fun x hx=>by
  have:=lbB_len (ll x hx 0 (by omega))
  have:=(F.ll x hx).1
  omega
 have c1:(bs ++ textL r.entity).length≤bs.length + 40:=by have:=F.en; simp only [List.length_append]; omega
 have c2:(hdB bs r).length≤bs.length + 50:=by unfold hdB; rw [List.length_append]; omega
 have c3:∀ i,(hdB bs r ++ (r.feats.take i).flatMap textL).length≤bs.length + 400:=fun i=>by
  have:=flat_len textL 34 (r.feats.take i) fun x hx=>k1 x (List.mem_of_mem_take hx)
  have h8:(r.feats.take i).length≤8:=by have:=F.nf; rw [List.length_take]; omega
  rw [List.length_append]; omega
 have c4:(mdB bs r).length≤bs.length + 410:=by
  have:=c3 r.feats.length
  rw [List.take_length] at this
  unfold mdB; rw [List.length_append]; omega
 exact ⟨F.en,F.nf,F.nl,F.lf,ll,c1,c2,c3,c4,fun i=>by
  have:=flat_len lbB 62 (r.labels.take i) fun x hx=>k2 x (List.mem_of_mem_take hx)
  have h8:(r.labels.take i).length≤256:=by have:=F.nl; rw [List.length_take]; omega
  rw [List.length_append]; omega,⟨F.sd.1,by have:=F.sd.2; omega⟩,⟨F.pm.1,by have:=F.pm.2; omega⟩⟩
theorem enc_eq (bs:List UInt8) (r:Rq):mdB bs r ++ r.labels.flatMap lbB ++ uintL (zig r.seed) ++ uintL (zig r.permille) = bs ++ encRq r:=by
 simp only [mdB,hdB,encRq,List.append_assoc]
theorem p31 (m:Int) (bs:List UInt8) (x:Rq) (hb:bs.length≤900000):LaxOk PQ (GQ m) XA (tbl [(46,s46),(26,laxS s26),(62,laxS s62),(72,s72),(25,laxS s25)]) (itbl []) (a31 bs x) [] 31 [bytesA bs,rqA x] (laxR (appRq bs x)):=by
 constructor
 rw [w31]
 have hn:∀ l:List (List UInt8),(strsL l).length = l.length:=fun l=>List.length_map _
 have hm:∀ l:List Lb,(lbsL l).length = l.length:=fun l=>List.length_map _
 simp only [hn,hm]
 refine ⟨_,⟨run46 x⟩,fun b=>?_,fun b=>lax_own (by unfold appRq; rw [if_neg (by rw [b]; simp)])⟩
 have F:=enc_in bs b
 have f1:=F.h1
 have f2:=F.h2
 have f4:=F.h4
 refine ⟨⟨_,⟨run26 (o:=.no) (by omega) (by have:=F.en; omega)⟩,_,⟨run62 (o:=.no) (by omega) (by have:=F.nf; omega)⟩,(),⟨rfl⟩,⟨rfl⟩,trivial,trivial⟩,fun _ _ _=>⟨⟨0,⟨by simp only [List.take_zero,List.flatMap_nil,List.append_nil]; rfl⟩,⟨rfl⟩,Nat.zero_le _,trivial⟩,fun i hi=>⟨fun lt=>?_,fun ge=>?_⟩⟩⟩
 ·have lt:=of_decide_eq_true lt
  have hil:i < x.feats.length:=by omega
  have f3:=F.h3 i
  refine ⟨⟨by omega,by omega⟩,_,by rw [Int.toNat_natCast]; exact take_str hil,_,⟨run26 (o:=.no) (by omega) (by have:=F.lf _ (List.getElem_mem hil); omega)⟩,i + 1,⟨?_⟩,⟨rfl⟩,hil,by omega⟩
  rw [wrapI (by have:=F.nf; omega),flat_step textL hil,← List.append_assoc]
 ·have ge:=of_decide_eq_false ge
  have hie:i = x.feats.length:=by omega
  subst hie
  rw [List.take_length]
  have f3:=F.h3 x.feats.length
  rw [List.take_length] at f3
  refine ⟨⟨_,⟨run62 (o:=.no) (by omega) (by have:=F.nl; omega)⟩,(),⟨rfl⟩,⟨rfl⟩,trivial,trivial⟩,fun _ _ _=>⟨⟨0,⟨by simp only [List.take_zero,List.flatMap_nil,List.append_nil]; rfl⟩,⟨rfl⟩,Nat.zero_le _,trivial⟩,fun j hj=>⟨fun lt=>?_,fun ge=>?_⟩⟩⟩
  ·have lt:=of_decide_eq_true lt
   have hjl:j < x.labels.length:=by omega
   have f5:=F.h5 j
   refine ⟨⟨by omega,by omega⟩,_,_,_,by rw [Int.toNat_natCast]; exact take_lb hjl,_,⟨run72 (o:=.no) (F.ll _ (List.getElem_mem hjl) _ (by omega))⟩,j + 1,⟨?_⟩,⟨rfl⟩,hjl,by omega⟩
   rw [wrapI (by have:=F.nl; omega),flat_step lbB hjl,← List.append_assoc]
  ·have ge:=of_decide_eq_false ge
   have hje:j = x.labels.length:=by omega
   subst hje
   rw [List.take_length]
   have f5:=F.h5 x.labels.length
   rw [List.take_length] at f5
   refine ⟨_,⟨run25 (o:=.no) (by omega) F.sd⟩,_,⟨run25 (o:=.no) (by rw [List.length_append]; have:=zig_len F.sd; omega) F.pm⟩,lax_own ?_⟩
   unfold appRq
   rw [if_pos b,← enc_eq]
theorem run33k {x:Rq} (hk:keysOk x.labels = true):s33 [rqA x] = some (.bool (formB x),[]):=run33 hk
theorem o31 (m:Int):SpecOk PQ (GQ m) 31 sAppRq:=lax_ofW (X:=XA) (m:=[]) [1] mixedQ (tbl_cons (o46 m) (tbl_cons (laxS_ok (o26 m)) (tbl_cons (laxS_ok (o62 m)) (tbl_cons (o72 m) (tbl_cons (laxS_ok (o25 m)) tbl_nil))))) itbl_nil fun args r h'=>by
 unfold sAppRq onBytes at h'
 split at h'
 ·split at h'
  ·rename_i hz
   split at h'
   ·rename_i bs hb
    dsimp only at h'
    split at h'
    ·rename_i x hx
     split at h'
     ·rename_i hp
      injection h' with h'; subst h'
      simp only [wkL,wk1 hz hb]
      rw [unRqN_inv _ _ hx]
      exact ⟨_,p31 m _ _ hp.1⟩
     ·cases h'
    ·cases h'
   ·cases h'
  ·cases h'
 ·cases h'
theorem runApp {bs:List UInt8} {x:Rq} (hb:bs.length≤900000) (hk:keysOk x.labels = true):sAppRq [.sl 1 (bytesL bs) .no,rqA x] = some (laxR (appRq bs x)):=by
 simp only [sAppRq,onBytes,unBytes_mk,true_or,if_true,unRqN_ok]
 rw [if_pos ⟨hb,hk⟩]
structure Seg (bs:List UInt8) (a n:Int) (l:List UInt8):Prop where
 out:∃ p s:List UInt8,bs = p ++ (l ++ s)∧a = (p.length:Int)∧n = ((p.length + l.length:Nat):Int)
theorem Seg.trans {bs:List UInt8} {a b c:Int} {l k:List UInt8} (h1:Seg bs a b l) (h2:Seg bs b c k):Seg bs a c (l ++ k):=by
 obtain ⟨p,s,e1,ha,hb⟩:=h1.out
 obtain ⟨p',s',e2,hb',hc⟩:=h2.out
 have hl:(p ++ l).length = p'.length:=by rw [List.length_append]; omega
 have he:(p ++ l) ++ s = p' ++ (k ++ s'):=by rw [← e2,e1,List.append_assoc]
 obtain ⟨x,y⟩:=List.append_inj he hl
 refine ⟨p,s',?_,ha,?_⟩
 ·rw [e1,y,List.append_assoc]
 ·rw [List.length_append] at hl ⊢
  omega
theorem Seg.cut {bs:List UInt8} {a c:Int} {l k:List UInt8} (h:Seg bs a c (l ++ k)):Seg bs a (a + l.length) l∧Seg bs (a + l.length) c k:=by
 obtain ⟨p,s,e,ha,hc⟩:=h.out
 rw [List.length_append] at hc
 refine ⟨⟨p,k ++ s,by rw [e,List.append_assoc],ha,by omega⟩,⟨p ++ l,s,by rw [e]; simp only [List.append_assoc],?_,?_⟩⟩
 ·rw [List.length_append]; omega
 ·rw [List.length_append]; omega
theorem Seg.nil {bs:List UInt8} {a:Int} (h0:0≤a) (h1:a≤bs.length):Seg bs a a []:=
 ⟨bs.take a.toNat,bs.drop a.toNat,(by rw [List.nil_append,List.take_append_drop]),(by rw [List.length_take]; omega),(by rw [List.length_take,List.length_nil]; omega)⟩
theorem Seg.len {bs:List UInt8} {a n:Int} {l:List UInt8} (h:Seg bs a n l):0≤a∧a + l.length = n∧n≤bs.length:=by
 obtain ⟨p,s,e,ha,hc⟩:=h.out
 rw [e,List.length_append,List.length_append]; omega
theorem Seg.same {bs:List UInt8} {a n:Int} {l:List UInt8} (h:Seg bs a n l):(bs.take n.toNat).drop a.toNat = l:=by
 obtain ⟨p,s,e,rfl,rfl⟩:=h.out
 rw [Int.toNat_natCast,Int.toNat_natCast,e,← List.append_assoc,← List.length_append,List.take_left,List.drop_left]
theorem unzig_zig (n:Int):unzig (zig n) = n:=by
 unfold zig unzig
 split <;> split <;> omega
/-! back -/
/-! forth -/
theorem uint_fwd {bs:List UInt8} {a b:Int} {n:Nat} (h:Seg bs a b (uintL n)) (hn:n < 18446744073709551616):uintA bs a = ((n:Int),b,0):=by
 obtain ⟨p,s,rfl,rfl,rfl⟩:=h.out
 unfold uintA
 have e:(p ++ (uintL n ++ s)).drop (p.length:Int).toNat = uintL n ++ s:=by rw [Int.toNat_natCast,List.drop_left]
 rw [if_neg (by simp only [List.length_append]; omega),e,uintP_uintL 9 n s (by simpa using hn) (fun h=>absurd h (by decide))]
 simp only [Prod.mk.injEq,true_and,and_true]
 omega
theorem n_fwd {bs:List UInt8} {a b k:Int} {n:Nat} (h:Seg bs a b (uintL n)) (hn:n < 18446744073709551616) (hk:(n:Int)≤k):rdN k bs a = .ok (n,b):=by
 unfold rdN
 rw [uint_fwd h hn,if_pos rfl,if_neg (by omega)]
 simp
theorem zig_lt' {n:Int} (h:i64W n):zig n < 18446744073709551616:=by
 have:=zig_lt h
 simpa using this
theorem int_fwd {bs:List UInt8} {a b n:Int} (h:Seg bs a b (uintL (zig n))) (hn:i64W n):rdI bs a = .ok (n,b):=by
 unfold rdI sintA
 rw [uint_fwd h (zig_lt' hn)]
 simp [unzig_zig]
theorem textA_fwd {bs s:List UInt8} {a b:Int} (h:Seg bs a b (textL s)) (hs:s.length≤2000000):textA bs a = (s,b,0):=by
 obtain ⟨p,t,rfl,rfl,rfl⟩:=h.out
 unfold textA
 have e:(p ++ (textL s ++ t)).drop (p.length:Int).toNat = uintL s.length ++ (s ++ t):=by rw [Int.toNat_natCast,List.drop_left,textL,List.append_assoc]
 rw [if_neg (by simp only [List.length_append]; omega)]
 unfold Z05.textR
 rw [e,uintP_uintL 9 s.length (s ++ t) (by omega) (fun h=>absurd h (by decide))]
 have hl:(textL s).length = (uintL s.length).length + s.length:=by rw [textL,List.length_append]
 simp only [Int.toNat_natCast]
 rw [if_neg (by simp only [List.length_append] at hl ⊢; omega)]
 simp only [Prod.mk.injEq,and_true]
 constructor
 ·rw [textL,List.append_assoc,← List.append_assoc p,List.drop_append,List.drop_of_length_le (by simp)]
  simp
 ·rw [hl]; omega
theorem text_fwd {bs s:List UInt8} {a b:Int} (h:Seg bs a b (textL s)) (hs:s.length≤2000000):rdT bs a = .ok (s,b):=by
 unfold rdT
 rw [textA_fwd h hs,if_pos rfl]
theorem texts_fwd {bs:List UInt8} {c:Int}:∀ (k:List (List UInt8)) (a:Int) (l:List (List UInt8)),(∀ s ∈ k,s.length≤2000000)→Seg bs a c (k.flatMap textL)→rdTs bs k.length a l = .ok (l ++ k,c)
 | [],a,l,_,h=>by
  obtain ⟨_,h2,_⟩:=h.len
  have:a = c:=by simpa using h2
  subst this
  simp [rdTs]
 | s :: k,a,l,hk,h=>by
  rw [List.flatMap_cons] at h
  obtain ⟨S1,S2⟩:=h.cut
  rw [List.length_cons,rdTs,text_fwd S1 (hk s List.mem_cons_self)]
  show rdTs bs k.length _ (l ++ [s]) = _
  rw [texts_fwd k _ _ (fun x hx=>hk x (List.mem_cons_of_mem _ hx)) S2]
  simp
theorem lb_fwd {bs:List UInt8} {a c:Int} {x:Lb} (h:Seg bs a c (lbB x)) (hx:lbFit 0 x):rdLb bs a = .ok (x,c):=by
 unfold lbB at h
 obtain ⟨S,S3⟩:=h.cut
 obtain ⟨S1,S2⟩:=S.cut
 unfold rdLb
 rw [text_fwd S1 (by have:=hx.1; omega)]
 simp only [thn]
 rw [int_fwd S2 hx.2.1]
 simp only
 rw [int_fwd S3 hx.2.2]
theorem lbs_fwd {bs:List UInt8} {c:Int}:∀ (k:List Lb) (a:Int) (l:List Lb),(∀ s ∈ k,lbFit 0 s)→Seg bs a c (k.flatMap lbB)→rdLs bs k.length a l = .ok (l ++ k,c)
 | [],a,l,_,h=>by
  obtain ⟨_,h2,_⟩:=h.len
  have:a = c:=by simpa using h2
  subst this
  simp [rdLs]
 | s :: k,a,l,hk,h=>by
  rw [List.flatMap_cons] at h
  obtain ⟨S1,S2⟩:=h.cut
  rw [List.length_cons,rdLs,lb_fwd S1 (hk s List.mem_cons_self)]
  show rdLs bs k.length _ (l ++ [s]) = _
  rw [lbs_fwd k _ _ (fun x hx=>hk x (List.mem_cons_of_mem _ hx)) S2]
  simp
theorem read_fwd {bs:List UInt8} {a c:Int} {r:Rq} (hr:formB r = true) (h:Seg bs a c (encRq r)):readRq bs a = .ok (r,c):=by
 have F:=enc_in [] hr
 unfold encRq at h
 obtain ⟨h,S7⟩:=h.cut
 obtain ⟨h,S6⟩:=h.cut
 obtain ⟨h,S5⟩:=h.cut
 obtain ⟨h,S4⟩:=h.cut
 obtain ⟨h,S3⟩:=h.cut
 obtain ⟨S1,S2⟩:=h.cut
 unfold readRq
 have n1:=F.nf
 have n2:=F.nl
 have n3:=F.en
 rw [text_fwd S1 (by omega)]
 simp only [thn,r4]
 rw [n_fwd S2 (by omega) (by omega)]
 simp only [rFs]
 rw [texts_fwd _ _ _ (fun s hs=>by have:=F.lf s hs; omega) S3]
 simp only [thn,r8,List.nil_append]
 rw [n_fwd S4 (by omega) (by omega)]
 simp only [rLs]
 rw [lbs_fwd _ _ _ (fun s hs=>F.ll s hs 0 (by omega)) S5]
 simp only [thn,r15,List.nil_append]
 rw [int_fwd S6 F.sd]
 simp only [r16]
 rw [int_fwd S7 F.pm]
 rfl
end Go.Abs
namespace Go.Abs.Lx
open Go.Proofs
def lib8:List (FuncId × Spec):=[(161,sIndexByte),(163,sIndexByteString),(133,sContains)]
theorem lib8_ok (m:Int):CalleeOk PQ (GQ m) (tbl lib8):=by
 refine tbl_cons (o_indexByte (fn:=Tryz.f161) (by kernel_rfl) (by kernel_rfl) (by kernel_rfl) (by kernel_rfl) (by kernel_rfl)) (tbl_cons (o_indexByteString (fn:=Tryz.f163) (by kernel_rfl) (by kernel_rfl) (by kernel_rfl) (by kernel_rfl) (by kernel_rfl)) (tbl_cons ?_ tbl_nil))
 exact o_contains (goodQ (by kernel_rfl)) (g0:=0) (m:=m) rfl fun s sub m w hs hm=>Tryz.strings_Contains s sub m w hs hm
theorem spec_run {P:Program} {G:Glob} {R0:Callee} (hm:P.follows .mixedOrders = true) (h0:CalleeOk P G R0) {f:FuncId} {s:Spec} (h:∀ args r,s args = some r→∃ n,(evs P G R0 (fun _=>[]) n).1 f args = some r):SpecOk P G f s:=by
 intro g args r lv hr
 simp only at hr
 split at hr
 ·rename_i e
  subst e
  obtain ⟨n,hn⟩:=h args _ hr
  exact (evs_ok hm h0 (fun _=>[]) n).1 g args r lv hn
 ·cases hr
def cls (c:Nat):Nat:=
 if c = 9∨c = 10∨c = 13∨c = 32 then 1 else
 if 97≤c∧c≤122 then 2 else
 if 48≤c∧c≤57 then 3 else
 if c = 95 then 4 else
 if c = 34 then 5 else
 if c = 35 then 6 else
 if c ∈ [123,125,40,41,91,93,44,58,59,61,60,43,45,42,47,94,64] then 7 else
 if c = 33 then 8 else 0
def classesA:AV:=.agg ((List.range 256).map fun c=>.int .u8 (cls c))
set_option maxRecDepth 100000 in
theorem run84 (m:Int):(evs PQ (GQ m) (tbl lib8) (fun _=>[]) 60).1 84 [] = some (classesA,[]):=by kernel_rfl
end Go.Abs.Lx
namespace Go.Abs.Lx
open Go.Proofs
def shB:Sh × Option TypeId:=(.val (.one .bool),none)
def shI:Sh × Option TypeId:=(.val (.one (.int .i64)),none)
def X1:Shapes:=fun f=>if f = 160∨f = 140 then some shB else none
def letterB (c:UInt8):Bool:=decide (97≤c.toNat∧c.toNat≤122)
def digitB (c:UInt8):Bool:=decide (48≤c.toNat∧c.toNat≤57)
def s160:Spec:=fun args=>match args with | [.int .u8 n]=>some (.bool (decide (97≤n∧n≤122)),[]) | _=>none
def s140:Spec:=fun args=>match args with | [.int .u8 n]=>some (.bool (decide (48≤n∧n≤57)),[]) | _=>none
def innerB (c:UInt8):Bool:=letterB c || digitB c || c == 95
def wl:List UInt8→Nat
 | []=>0
 | c :: t=>if letterB c then 1 + (t.takeWhile innerB).length else 0
def nA:Nat→Option Ann:=fun _=>none
def a123 (bs:List UInt8) (i:Nat):Anns:=⟨fun k=>if k = 4 then some { α:=Int,slots:=[0,1,5],nb:=0,vals:=fun n=>[bytesA bs,.int .i64 i,.int .i64 n],sS:=fun _=>⟨[],[]⟩,I:=fun n=>∃ k:Nat,n = k∧1≤k∧k≤wl (bs.drop i),μ:=fun n=>(bs.length - n).toNat } else none,nA⟩
def t33:List (FuncId × Spec):=[(160,s160),(140,s140)]
end Go.Abs.Lx
namespace Go.Abs.Lx
open Go.Proofs
theorem w160 (m:Int) (n:Int):(pureW PQ (GQ m) X1 (tbl []) (itbl []) ⟨nA,nA⟩ [] 160 [.int .u8 n] (.bool (decide (97≤n∧n≤122)),[])) =
((decide (n ≥ (97:Int)) = true→(decide (n≤(122:Int)) = true→RetIs (AV.bool true) [] (AV.bool (decide ((97:Int)≤n∧n≤(122:Int))),[]))∧(decide (n≤(122:Int)) = false→RetIs (AV.bool false) [] (AV.bool (decide ((97:Int)≤n∧n≤(122:Int))),[])))∧(decide (n ≥ (97:Int)) = false→RetIs (AV.bool false) [] (AV.bool (decide ((97:Int)≤n∧n≤(122:Int))),[]))):=by kernel_rfl
abbrev w123c3 (bs:List UInt8) (i:Nat) (y:Int):List AV:=[AV.sl 1 (bytesL bs) Own.no,AV.int IntKind.i64 (↑i:Int),AV.int IntKind.i64 y]
abbrev w123c1 (b:Bool) (bs:List UInt8) (i:Nat) (x:Int):Prop:=b = true→∃ (y:Int),ValsAre [AV.sl 1 (bytesL bs) Own.no,AV.int IntKind.i64 (↑i:Int),AV.int IntKind.i64 (IntKind.i64.wrap (x + (1:Int)))] (w123c3 bs i y)∧StIs { boxes:=[],live:=[] } { boxes:=[],live:=[] }∧(∃ (k:Nat),y = (↑k:Int)∧(1:Nat)≤k∧k≤wl (List.drop i bs))∧((↑bs.length:Int) - y).toNat < ((↑bs.length:Int) - x).toNat
abbrev w123c2 (i:Nat) (x:Int) (bs:List UInt8):Prop:=(0:Int)≤IntKind.i64.wrap ((↑i:Int) + x)∧IntKind.i64.wrap ((↑i:Int) + x) < (↑(bytesL bs).length:Int)
theorem w123 (m:Int) (bs:List UInt8) (i:Nat):(pureW PQ (GQ m) X1 (tbl t33) (itbl []) (a123 bs i) [] 123 [bytesA bs,.int .i64 i] (.int .i64 (wl (bs.drop i)),[])) =
(((0:Int)≤(↑i:Int)∧(↑i:Int) < (↑(bytesL bs).length:Int))∧∃ (n:Int),takeAt PQ 5 (bytesL bs) (↑i:Int).toNat 0 = some (AV.int IntKind.u8 n)∧∃ (b:Bool),CallIs (some (AV.bool (decide ((97:Int)≤n∧n≤(122:Int))),[])) (AV.bool b) []∧(b = true→(∃ (y:Int),ValsAre [AV.sl 1 (bytesL bs) Own.no,I6 (↑i:Int),I6 1] (w123c3 bs i y)∧StIs { boxes:=[],live:=[] } { boxes:=[],live:=[] }∧(∃ (k:Nat),y = (↑k:Int)∧(1:Nat)≤k∧k≤wl (List.drop i bs))∧True)∧∀ (x:Int),(∃ (k:Nat),x = (↑k:Int)∧(1:Nat)≤k∧k≤wl (List.drop i bs))→(decide (IntKind.i64.wrap ((↑i:Int) + x) < (↑(bytesL bs).length:Int)) = true→(w123c2 i x bs)∧∃ (n:Int),takeAt PQ 5 (bytesL bs) (IntKind.i64.wrap ((↑i:Int) + x)).toNat 0 = some (AV.int IntKind.u8 n)∧∃ (b:Bool),CallIs (some (AV.bool (decide ((97:Int)≤n∧n≤(122:Int))),[])) (AV.bool b) []∧(w123c1 b bs i x)∧(b = false→(w123c2 i x bs)∧∃ (n:Int),takeAt PQ 5 (bytesL bs) (IntKind.i64.wrap ((↑i:Int) + x)).toNat 0 = some (AV.int IntKind.u8 n)∧∃ (b:Bool),CallIs (some (AV.bool (decide ((48:Int)≤n∧n≤(57:Int))),[])) (AV.bool b) []∧(w123c1 b bs i x)∧(b = false→(w123c2 i x bs)∧∃ (n:Int),takeAt PQ 5 (bytesL bs) (IntKind.i64.wrap ((↑i:Int) + x)).toNat 0 = some (AV.int IntKind.u8 n)∧((n == (95:Int)) = true→∃ (y:Int),ValsAre [AV.sl 1 (bytesL bs) Own.no,I6 (↑i:Int),I6 (IntKind.i64.wrap (x + (1:Int)))] (w123c3 bs i y)∧StIs { boxes:=[],live:=[] } { boxes:=[],live:=[] }∧(∃ (k:Nat),y = (↑k:Int)∧(1:Nat)≤k∧k≤wl (List.drop i bs))∧((↑bs.length:Int) - y).toNat < ((↑bs.length:Int) - x).toNat)∧((n == (95:Int)) = false→RetIs (I6 x) [] (I6 (↑(wl (List.drop i bs)):Int),[])))))∧(decide (IntKind.i64.wrap ((↑i:Int) + x) < (↑(bytesL bs).length:Int)) = false→RetIs (I6 x) [] (I6 (↑(wl (List.drop i bs)):Int),[])))∧(b = false→RetIs (I6 0) [] (I6 (↑(wl (List.drop i bs)):Int),[]))):=by kernel_rfl
theorem w140 (m:Int) (n:Int):(pureW PQ (GQ m) X1 (tbl []) (itbl []) ⟨nA,nA⟩ [] 140 [.int .u8 n] (.bool (decide (48≤n∧n≤57)),[])) =
((decide (n ≥ (48:Int)) = true→(decide (n≤(57:Int)) = true→RetIs (AV.bool true) [] (AV.bool (decide ((48:Int)≤n∧n≤(57:Int))),[]))∧(decide (n≤(57:Int)) = false→RetIs (AV.bool false) [] (AV.bool (decide ((48:Int)≤n∧n≤(57:Int))),[])))∧(decide (n ≥ (48:Int)) = false→RetIs (AV.bool false) [] (AV.bool (decide ((48:Int)≤n∧n≤(57:Int))),[]))):=by kernel_rfl
end Go.Abs.Lx
namespace Go.Abs.Lx
open Go.Proofs
theorem agg5:aggA PQ 5 = some false:=by kernel_rfl
theorem size5:(sizeA PQ 5).isSome = true:=by kernel_rfl
theorem wl_le (bs:List UInt8):wl bs≤bs.length:=by
 cases bs with
 | nil=>simp [wl]
 | cons c t =>
  simp only [wl]
  split
  ·have:=(List.takeWhile_prefix innerB (l:=t)).length_le
   simp; omega
  ·simp
theorem wl_drop {bs:List UInt8} {i:Nat} (h:i < bs.length):wl (bs.drop i) = if letterB (bs.getD i 0) then 1 + ((bs.drop (i + 1)).takeWhile innerB).length else 0:=by
 rw [List.drop_eq_getElem_cons h]
 simp [wl,h]
theorem getD_drop' {bs:List UInt8} {i k:Nat}:(bs.drop i).getD k 0 = bs.getD (i + k) 0:=by
 simp [List.getElem?_drop]
theorem wl_next {bs:List UInt8} {i k:Nat} (hk:k≤wl (bs.drop i)) (h1:1≤k) (h:i + k < bs.length) (hp:innerB (bs.getD (i + k) 0) = true):k + 1≤wl (bs.drop i):=by
 rw [wl_drop (by omega)] at hk ⊢
 split at hk
 ·rename_i hc
  rw [if_pos hc]
  have:=tw_next (p:=innerB) (l:=bs.drop (i + 1)) (k:=k - 1) (by omega) (by rw [List.length_drop]; omega) (by rw [getD_drop',show i + 1 + (k - 1) = i + k by omega]; exact hp)
  omega
 ·omega
theorem wl_stop {bs:List UInt8} {i k:Nat} (hk:k≤wl (bs.drop i)) (h1:1≤k) (hp:i + k < bs.length→innerB (bs.getD (i + k) 0) = false):k = wl (bs.drop i):=by
 have hl:=wl_le (bs.drop i)
 rw [List.length_drop] at hl
 have hi:i < bs.length:=by omega
 rw [wl_drop hi] at hk ⊢
 split at hk
 ·rename_i hc
  rw [if_pos hc]
  have:=tw_stop (p:=innerB) (l:=bs.drop (i + 1)) (k:=k - 1) (by omega) (fun h=>by rw [getD_drop',show i + 1 + (k - 1) = i + k by omega]; exact hp (by rw [List.length_drop] at h; omega))
  omega
 ·omega
theorem p123 (m:Int) (bs:List UInt8) (i:Nat) (hi:i < bs.length) (hb:bs.length < 2 ^ 60):PureOk PQ (GQ m) X1 (tbl t33) (itbl []) (a123 bs i) [] 123 [bytesA bs,.int .i64 i] (.int .i64 (wl (bs.drop i)),[]):=by
 constructor
 rw [w123]; unfold w123c2 w123c1 w123c3 I6
 simp only [callIs_iff,valsAre_iff,stIs_iff,retIs_iff,take_u8_iff agg5 size5,Option.some.injEq,Prod.mk.injEq,AV.bool.injEq,AV.int.injEq,List.cons.injEq,and_true,true_and,exists_eq_left',and_assoc,exists_and_left,decide_eq_true_eq,decide_eq_false_iff_not,bytesL_length,Int.toNat_natCast]
 have hw:=wl_drop hi
 have hl:=wl_le (bs.drop i)
 rw [List.length_drop] at hl
 have hlet:letterB (bs.getD i 0) = decide (97≤(bs.getD i 0).toNat∧(bs.getD i 0).toNat≤122):=rfl
 refine ⟨by omega,by omega,hi,fun hA=>⟨⟨1,rfl,Nat.le_refl _,?_⟩,?_⟩,fun hA=>?_⟩
 ·rw [hw,if_pos (by rw [hlet]; exact decide_eq_true (by omega))]; omega
 ·rintro x ⟨k,rfl,h1,h2⟩
  rw [wrap64_in (n:=(i:Int) + k) (by omega) (by omega),wrap64_in (n:=(k:Int) + 1) (by omega) (by omega),show ((i:Int) + k).toNat = i + k by omega]
  have hin:innerB (bs.getD (i + k) 0) = (decide (97≤(bs.getD (i + k) 0).toNat∧(bs.getD (i + k) 0).toNat≤122) || decide (48≤(bs.getD (i + k) 0).toNat∧(bs.getD (i + k) 0).toNat≤57) || (bs.getD (i + k) 0) == 95):=rfl
  generalize hc:bs.getD (i + k) 0 = c at *
  have step:i + k < bs.length→innerB c = true→(∃ j:Nat,(k:Int) + 1 = j∧1≤j∧j≤wl (bs.drop i))∧((bs.length:Int) - (k + 1)).toNat < ((bs.length:Int) - k).toNat:=fun hlt hp =>
   ⟨⟨k + 1,by omega,by omega,wl_next h2 h1 hlt (hc ▸ hp)⟩,by omega⟩
  refine ⟨fun hlt=>⟨by omega,by omega,by omega,fun hB=>step (by omega) (by rw [hin]; simp; omega),fun hB=>⟨by omega,by omega,by omega,fun hC=>step (by omega) (by rw [hin]; simp; omega),fun hC=>⟨by omega,by omega,by omega,fun hD=>step (by omega) ?_,fun hD=>?_⟩⟩⟩,fun hge=>?_⟩
  ·rw [hin]
   have:c = 95:=by
    rw [← UInt8.toNat_inj]
    have:(c.toNat:Int) = 95:=by simpa using hD
    have h95:(95:UInt8).toNat = 95:=rfl
    omega
   simp [this]
  ·have:=wl_stop (bs:=bs) (i:=i) (k:=k) h2 h1 fun _=>by
    rw [hc,hin]
    have:c ≠ 95:=by
     intro e; subst e; simp at hD
    simp [this]
    omega
   omega
  ·have:=wl_stop (bs:=bs) (i:=i) (k:=k) h2 h1 fun h=>by omega
   omega
 ·rw [hw,if_neg (by rw [hlet]; simp only [decide_eq_true_eq]; omega)]; rfl
end Go.Abs.Lx
namespace Go.Abs.Lx.L8
open Go.Abs
structure TkX where
 kind:Int
 text:List UInt8
 at_:Nat
 deriving DecidableEq
structure PbX where
 at_:Nat
 code:Int
 deriving DecidableEq
def blankB (c:UInt8):Bool:=c == 9 || c == 10 || c == 13 || c == 32
def signs:List UInt8:=[123,125,40,41,91,93,44,58,59,61,60,43,45,42,47,94,64]
def signB (c:UInt8):Bool:=signs.contains c
def eqSgB (c:UInt8):Bool:=c == 61 || c == 33 || c == 60
def valX (s:List UInt8):Nat:=s.foldl (fun n c=>10 * n + (c.toNat - 48)) 0
def intErr (s:List UInt8):Int:=if 2 ^ 60 < valX s then 2 else 0
def decErr (s:List UInt8):Int:=
 let a:=s.takeWhile digitB
 let b:=s.drop (a.length + 1)
 if 6 < b.length then 3 else if 2 ^ 60 < valX (a ++ b) * 10 ^ (6 - b.length) then 2 else 0
def badB (c:UInt8):Bool:=decide (c.toNat < 32) || decide (126 < c.toNat) || c == 92
def txtErr (s:List UInt8):Int:=if 64 < s.length then 2 else if s.any badB then 3 else 0
def lineB (c:UInt8):Bool:=c != 34 && c != 10
def piece:List UInt8→Int × Nat × Int
 | []=>(0,0,0)
 | c :: t =>
  if blankB c then (0,1,0)
  else if c == 35 then (0,1 + (t.takeWhile (· != 10)).length,0)
  else if letterB c then (1,1 + (t.takeWhile innerB).length,if 24 < 1 + (t.takeWhile innerB).length then 2 else 0)
  else if digitB c then
   let n:=1 + (t.takeWhile digitB).length
   match (c :: t).drop n with
   | 46 :: u =>
    if (u.takeWhile digitB).length = 0 then (2,n,intErr ((c :: t).take n))
    else (3,n + 1 + (u.takeWhile digitB).length,decErr ((c :: t).take (n + 1 + (u.takeWhile digitB).length)))
   | _=>(2,n,intErr ((c :: t).take n))
  else if c == 34 then
   match t.drop (t.takeWhile lineB).length with
   | 34 :: _=>(4,(t.takeWhile lineB).length + 2,txtErr (t.takeWhile lineB))
   | _=>(-1,1,80)
  else if eqSgB c && (t.head?.getD 0 == 61) then (5,2,0)
  else if signB c then (5,1,0)
  else (-1,1,80)
theorem piece_pos (c:UInt8) (t:List UInt8):1≤(piece (c :: t)).2.1:=by
 simp only [piece]
 repeat' split
 all_goals simp <;> omega
theorem tw_le {p:UInt8→Bool} (l:List UInt8):(l.takeWhile p).length≤l.length:=(List.takeWhile_prefix p).length_le
theorem drop_cons_lt {l:List UInt8} {n:Nat} {c:UInt8} {u:List UInt8} (h:l.drop n = c :: u):n + 1 + u.length = l.length:=by
 have:=congrArg List.length h
 simp at this
 omega
theorem piece_le (l:List UInt8):(piece l).2.1≤l.length:=by
 cases l with
 | nil=>simp [piece]
 | cons c t =>
  have h1:=tw_le (p:=(· != 10)) t
  have h2:=tw_le (p:=innerB) t
  have h3:=tw_le (p:=digitB) t
  have h4:=tw_le (p:=lineB) t
  simp only [piece]
  repeat' split
  all_goals try (simp <;> omega)
  ·rename_i u h5 _
   have:=drop_cons_lt h5
   have:=tw_le (p:=digitB) u
   simp at *; omega
  ·rename_i u h5
   have:=drop_cons_lt h5
   simp at *; omega
  ·rename_i h5 
   simp only [Bool.and_eq_true] at h5
   cases t with
   | nil=>simp at h5
   | cons d t=>simp
def txtOf (l:List UInt8):List UInt8:=if (piece l).1 = 4 then ((l.take (piece l).2.1).drop 1).take ((piece l).2.1 - 2) else l.take (piece l).2.1
def tkOf (l:List UInt8) (at_:Nat):List TkX:=if (piece l).1 ≠ -1∧(piece l).2.2 = 0∧(piece l).1 ≠ 0 then [⟨(piece l).1,txtOf l,at_⟩] else []
def pbOf (l:List UInt8) (at_:Nat) (adj:Bool):List PbX:=
 if (piece l).1 = -1 then (if adj then [] else [⟨at_,80⟩]) else if (piece l).2.2 = 0 then [] else [⟨at_,(piece l).2.2⟩]
def adjOf (l:List UInt8):Bool:=decide ((piece l).1 = -1)
def scanF:Nat→List UInt8→Nat→Bool→List TkX × List PbX
 | 0,_,_,_=>([],[])
 | n + 1,l,a,adj =>
  match l with
  | []=>([],[])
  | c :: t =>
   let r:=scanF n ((c :: t).drop (piece (c :: t)).2.1) (a + (piece (c :: t)).2.1) (adjOf (c :: t))
   (tkOf (c :: t) a ++ r.1,pbOf (c :: t) a adj ++ r.2)
theorem scanF_fuel:∀ (n m:Nat) (l:List UInt8) (a:Nat) (adj:Bool),l.length≤n→l.length≤m→scanF n l a adj = scanF m l a adj:=by
 intro n
 induction n with
 | zero =>
  intro m l a adj hn _
  have:l = []:=List.length_eq_zero_iff.1 (by omega)
  subst this
  cases m <;> simp [scanF]
 | succ n ih =>
  intro m l a adj hn hm
  cases l with
  | nil=>cases m <;> simp [scanF]
  | cons c t =>
   cases m with
   | zero=>simp at hm
   | succ m =>
    have:=piece_pos c t
    simp only [scanF]
    rw [ih m _ _ _ (by simp at hn ⊢; omega) (by simp at hm ⊢; omega)]
def scan (l:List UInt8) (a:Nat) (adj:Bool):List TkX × List PbX:=scanF l.length l a adj
theorem scan_nil (a:Nat) (adj:Bool):scan [] a adj = ([],[]):=rfl
theorem scan_step {l:List UInt8} (hl:l ≠ []) (a:Nat) (adj:Bool):scan l a adj = (tkOf l a ++ (scan (l.drop (piece l).2.1) (a + (piece l).2.1) (adjOf l)).1,pbOf l a adj ++ (scan (l.drop (piece l).2.1) (a + (piece l).2.1) (adjOf l)).2):=by
 cases l with
 | nil=>exact absurd rfl hl
 | cons c t =>
  have:=piece_pos c t
  unfold scan
  simp only [List.length_cons,scanF]
  rw [scanF_fuel t.length _ _ _ _ (by simp; omega) (Nat.le_refl _)]
def toksX (l:List UInt8):List TkX:=(scan l 0 false).1 ++ [⟨6,[],l.length⟩]
def probsL (l:List UInt8):List PbX:=(scan l 0 false).2.take 32
def tokA (t:TkX):AV:=.agg [.int .i64 t.kind,.str t.text,.int .i64 t.at_]
def pbX (p:PbX):AV:=.agg [.int .i64 p.at_,.int .i64 p.code]
end Go.Abs.Lx.L8
namespace Go.Abs.Lx
open Go.Proofs
def nAn:Anns:=⟨nA,nA⟩
end Go.Abs.Lx
namespace Go.Abs.Lx
open Go.Proofs L8
def keptClasses:List AV:=(List.range 256).map fun c=>.int .u8 (cls c)
def keptClassesA:AV:=.agg keptClasses
def bytesD (es:List AV):List UInt8:=(unBytes es).getD []
theorem bytesD_mk (bs:List UInt8):bytesD (bytesL bs) = bs:=by simp only [bytesD,unBytes_mk,Option.getD_some]
def s85:ISpec:=fun args S=>match args,S with
 | [.int .i64 code,.ptr 0 0,.ptr 2 0],⟨[some [.sl 2 es (.tok 1)],some cs,some [.int .i64 a]],[p,(n,86)]⟩ =>
  some (n = es.length∧cs = keptClasses∧es.length≤1000000,.tup [],⟨[some [.sl 2 (if es.length < 32 then es ++ [.agg [.int .i64 a,.int .i64 code]] else es) (.tok 1)],some cs,some [.int .i64 a]],[p,(if es.length < 32 then n + 1 else n,86)]⟩)
 | _,_=>none
def inCls (ps:List AV) (c:UInt8):Bool:=(bytesD ps).any fun p=>p.toNat == cls c.toNat
def runL (ps:List AV) (l:List UInt8):Nat:=(l.takeWhile (inCls ps)).length
def s127:ISpec:=fun args S=>match args,S with
 | [.int .i64 n,.sl 1 ps .full,.ptr 3 0,.ptr 4 0],⟨[some b0,some cs,some b2,some [.sl 1 es .no],some [.ptr 1 0]],[p,q]⟩ =>
  some (cs = keptClasses∧(b0.all (AV.p0 5) = true∧b2.all (AV.p0 5) = true)∧(∃ bs,es = bytesL bs∧bs.length≤1000000∧0≤n∧n≤bs.length)∧(∃ qs,ps = bytesL qs∧qs ≠ []),.int .i64 (n + runL ps ((bytesD es).drop n.toNat)),⟨[some b0,some cs,some b2,some [.sl 1 es .no],some [.ptr 1 0]],[p,q]⟩)
 | _,_=>none
def s86:ISpec:=fun args S=>match args,S with
 | [.sl 1 es .no,.int .i64 n,.ptr 1 0],⟨[some b0,some cs,some b2],[p,q]⟩ =>
  some (cs = keptClasses∧(b0.all (AV.p0 3) = true∧b2.all (AV.p0 3) = true)∧(∃ bs,es = bytesL bs∧bs.length≤1000000∧0≤n∧n < bs.length),.tup [.int .i64 (piece ((bytesD es).drop n.toNat)).1,.int .i64 (n + (piece ((bytesD es).drop n.toNat)).2.1),.int .i64 (piece ((bytesD es).drop n.toNat)).2.2],⟨[some b0,some cs,some b2],[p,q]⟩)
 | _,_=>none
def onBytes (es:List AV) (f:List UInt8→Option (AV × List (Nat × TypeId))):Option (AV × List (Nat × TypeId)):=
 match unBytes es with
 | some bs=>f bs
 | none=>none
def s128:Spec:=fun args=>match args with
 | [.sl sz es .no,.int .u8 c] | [.sl sz es .full,.int .u8 c]=>if sz = 1∧es ≠ [] then onBytes es fun bs=>some (.int .i64 (Lib.indexByte bs c.toNat.toUInt8),[]) else none
 | _=>none
def s132:Spec:=sIndexByteString
def s130:Spec:=fun args=>match args with
 | [.sl sz es .no,.str [34,10]]=>if sz = 1 then onBytes es fun bs=>if bs.length≤1000000 then some (.int .i64 (if (bs.takeWhile lineB).length < bs.length then ((bs.takeWhile lineB).length:Int) else -1),[]) else none else none
 | _=>none
def s131:Spec:=fun args=>match args with
 | [.sl sz es .no]=>if sz = 1 then onBytes es fun bs=>if bs.length≤1000000 then some (.int .i64 (txtErr bs),[]) else none else none
 | _=>none
def intB (l:List UInt8):Bool:=decide (l ≠ []) && l.all digitB
def decB (l:List UInt8):Bool:=
 let a:=l.takeWhile digitB
 decide (a ≠ []) && decide (l[a.length]? = some 46) && intB (l.drop (a.length + 1))
def decVal (s:List UInt8):Nat:=
 let a:=s.takeWhile digitB
 let b:=s.drop (a.length + 1)
 valX (a ++ b) * 10 ^ (6 - b.length)
def s129:Spec:=fun args=>match args with
 | [.int .i64 k,.str l] =>
  if l.length≤1000000 then
   if k = 3∧decB l = true then some (.int .i64 (decErr l),[]) else if k = 2∧intB l = true then some (.int .i64 (intErr l),[]) else none
  else none
 | _=>none
def s84k:Spec:=fun args=>match args with
 | []=>some (keptClassesA,[])
 | _=>none
def s162':Spec:=fun args=>match args with
 | [.str l]=>if l.length≤1000000∧decB l = true then some (.tup [.int .i64 (if decErr l = 0 then decVal l else 0),.int .i64 (decErr l)],[]) else none
 | _=>none
def s89':Spec:=fun args=>match args with
 | [.str l]=>if l.length≤1000000∧intB l = true then some (if valX l≤9223372036854775807 then (.tup [.int .i64 (valX l),.lit .nilIface],[]) else (.tup [.int .i64 9223372036854775807,.ifc],[])) else none
 | _=>none
def shTI:Sh × Option TypeId:=(.tup [.one (.int .i64),.one (.int .i64)],none)
def shTE:Sh × Option TypeId:=(.tup [.one (.int .i64),.one .err],none)
def shCls:Sh × Option TypeId:=(.val (.one (.is keptClassesA)),none)
def XL:Shapes:=fun f=>match f with
 | 128 | 129 | 130 | 131 | 132 | 163 | 170 | 161=>some shI
 | 84=>some shCls
 | 162=>some shTI
 | 89=>some shTE
 | _=>none
def badA (l:List PbX) (o:Own):AV:=.sl 2 (l.map pbX) o
def tkA (l:List TkX) (o:Own):AV:=.sl 3 (l.map tokA) o
structure X36 where
 l:List TkX
 b:List PbX
 p:Nat
 adj:Bool
 st:Int
 code:Int
def stAt (x:X36):St:=⟨[some [badA (x.b.take 32) (.tok 1)],some keptClasses,some [.int .i64 x.p]],[(x.l.length,99),((x.b.take 32).length,86)]⟩
structure Inv36 (bs:List UInt8) (x:X36):Prop where
 small:bs.length≤16384
 len:x.l.length≤x.p
 p:x.p≤bs.length
 l:x.l ++ (scan (bs.drop x.p) x.p x.adj).1 = (scan bs 0 false).1
 b:x.b ++ (scan (bs.drop x.p) x.p x.adj).2 = (scan bs 0 false).2
 st:x.adj = true ↔ (x.st = x.p - 1∧x.p ≠ 0)
 lt:-1≤x.st∧x.st < x.p
structure Inv36b (bs:List UInt8) (x:X36):Prop where
 inv:Inv36 bs x
 p:x.p < bs.length
 un:(piece (bs.drop x.p)).1 = -1
 code:x.code = 80
def a36 (bs:List UInt8):Anns:=⟨nA,fun k=>match k with
 | 0=>some { α:=X36,slots:=[0,2,3,4,5,6,7,8],nb:=3,vals:=fun x=>[bytesA bs,tkA x.l (.tok 0),.ptr 0 0,.int .i64 0,.ptr 1 0,.ptr 2 0,.int .i64 x.st,.fn 85 [.ptr 0 0,.ptr 2 0]],sS:=stAt,I:=Inv36 bs,μ:=fun x=>2 * (bs.length - x.p) + 1,mint:=[(2,99)],mintB:=[(0,86)] }
 | 1=>some { α:=X36,slots:=[0,2,3,4,5,6,7,8,11],nb:=3,vals:=fun x=>[bytesA bs,tkA x.l (.tok 0),.ptr 0 0,.int .i64 0,.ptr 1 0,.ptr 2 0,.int .i64 x.st,.fn 85 [.ptr 0 0,.ptr 2 0],.int .i64 x.code],sS:=stAt,I:=Inv36b bs,μ:=fun x=>2 * (bs.length - x.p) }
 | _=>none⟩
def S37 (b0 b2:List AV) (es:List AV) (p q:Nat × TypeId):St:=⟨[some b0,some keptClasses,some b2,some [.sl 1 es .no],some [.ptr 1 0]],[p,q]⟩
def S29 (b0 b2:List AV) (p q:Nat × TypeId):St:=⟨[some b0,some keptClasses,some b2],[p,q]⟩
def a127 (n:Int) (ps:List AV) (o:Own) (bs:List UInt8) (S:St):Anns:=⟨fun k=>if k = 1 then some { α:=Nat,slots:=[0,1,2,3],nb:=5,vals:=fun j=>[.int .i64 (n + j),.sl 1 ps o,.ptr 3 0,.ptr 4 0],sS:=fun _=>S,I:=fun j=>j≤runL ps (bs.drop n.toNat),μ:=fun j=>(bs.length - n - j).toNat } else none,nA⟩
def a131 (bs:List UInt8):Anns:=⟨fun k=>if k = 4 then some { α:=Nat,slots:=[8,9,10],nb:=0,vals:=fun j=>[bytesA bs,.int .i64 bs.length,.int .i64 j],sS:=fun _=>⟨[],[]⟩,I:=fun j=>j≤bs.length∧(bs.take j).any badB = false,μ:=fun j=>bs.length - j } else none,nA⟩
def t29:List (FuncId × Spec):=[(128,s128),(129,s129),(130,s130),(131,s131),(132,s132)]
def t12:List (FuncId × Spec):=[(84,s84k)]
end Go.Abs.Lx
namespace Go.Abs.Lx
open Go.Proofs L8
def valF (n:Nat) (l:List UInt8):Nat:=l.foldl (fun n c=>10 * n + (c.toNat - 48)) n
theorem valL_eq (l:List UInt8):valX l = valF 0 l:=rfl
theorem valF_ge:∀ (l:List UInt8) (n:Nat),n≤valF n l
 | [],n=>Nat.le_refl _
 | c :: l,n=>by
  have:=valF_ge l (10 * n + (c.toNat - 48))
  simp only [valF,List.foldl_cons] at this ⊢
  omega
theorem digitB_iff {c:UInt8}:digitB c = true ↔ 48≤c.toNat∧c.toNat≤57:=by simp [digitB]
theorem parse_digits:∀ (l:List UInt8) (n:Nat),l.all digitB = true→n < 18446744073709551616 →
  Lib.parseUint10 n l = if valF n l < 18446744073709551616 then .ok (valF n l) else .range
 | [],n,_,hn=>by simp [Lib.parseUint10,valF,hn]
 | c :: l,n,hd,hn=>by
  simp only [List.all_cons,Bool.and_eq_true,digitB_iff] at hd
  have hv:valF n (c :: l) = valF (10 * n + (c.toNat - 48)) l:=rfl
  have hge:=valF_ge l (10 * n + (c.toNat - 48))
  simp only [Lib.parseUint10]
  rw [if_pos hd.1,hv]
  by_cases h1:1844674407370955162≤n
  ·rw [if_pos h1,if_neg (by omega)]
  ·rw [if_neg h1]
   by_cases h2:18446744073709551616≤n * 10 + (c.toNat - 48)
   ·rw [if_pos h2,if_neg (by omega)]
   ·rw [if_neg h2,Nat.mul_comm n 10]
    exact parse_digits l _ hd.2 (by omega)
theorem atoi_digits {l:List UInt8} (h:intB l = true):Lib.atoiAll l = if valX l≤9223372036854775807 then .ok (valX l:Int) else .range:=by
 simp only [intB,Bool.and_eq_true,decide_eq_true_eq] at h
 obtain ⟨h1,h2⟩:=h
 cases l with
 | nil=>exact absurd rfl h1
 | cons c r =>
  have hc:48≤c.toNat∧c.toNat≤57:=by
   simp only [List.all_cons,Bool.and_eq_true,digitB_iff] at h2; exact h2.1
  have hp:=parse_digits (c :: r) 0 h2 (by omega)
  simp only [Lib.atoiAll,Lib.parseMag]
  rw [if_neg (show ¬ (c.toNat = 43∨c.toNat = 45) by omega),if_neg (by simp),hp,valL_eq]
  by_cases h3:valF 0 (c :: r) < 18446744073709551616
  ·rw [if_pos h3]
   simp only
   by_cases h4:valF 0 (c :: r)≤9223372036854775807
   ·rw [if_pos h4,if_neg (by omega),if_neg (by omega),if_neg (by omega)]
   ·rw [if_neg h4,if_pos (by omega)]
  ·rw [if_neg h3,if_neg (by omega)]
def dstep (s:Option (List UInt8 × Option Nat)) (c:UInt8):Option (List UInt8 × Option Nat):=
 match s with
 | none=>none
 | some (ds,k) =>
  if c = 46∧k = none∧ds ≠ [] then some (ds,some 0)
  else if digitB c = true then some (ds ++ [c],k.map (· + 1))
  else none
def dfold (l:List UInt8):Option (List UInt8 × Option Nat):=l.foldl dstep (some ([],none))
def decFin (neg:Bool) (v k:Nat):Int × Int:=
 if 2 ^ 60 < v * 10 ^ (6 - k) then (0,2) else (if neg then -((v * 10 ^ (6 - k):Nat):Int) else ((v * 10 ^ (6 - k):Nat):Int),0)
def decR (neg:Bool) (r:List UInt8):Int × Int:=
 match dfold r with
 | none=>(0,3)
 | some (ds,k)=>if ds = []∨k = some 0∨6 < k.getD 0 then (0,3) else decFin neg (valX ds) (k.getD 0)
def negB (s:List UInt8):Bool:=s.head? == some 45
def decP (s:List UInt8):Int × Int:=decR (negB s) (if negB s then s.drop 1 else s)
theorem dfold_none (l:List UInt8):l.foldl dstep none = none:=by
 induction l with
 | nil=>rfl
 | cons c l ih=>simpa [dstep] using ih
theorem dfold_digits:∀ (a:List UInt8) (ds:List UInt8) (k:Option Nat),a.all digitB = true→a.foldl dstep (some (ds,k)) = some (ds ++ a,k.map (· + a.length))
 | [],ds,k,_=>by cases k <;> simp
 | c :: a,ds,k,h=>by
  simp only [List.all_cons,Bool.and_eq_true] at h
  have hc:¬ (c = 46):=by rintro rfl; simp [digitB] at h
  rw [List.foldl_cons]
  have:dstep (some (ds,k)) c = some (ds ++ [c],k.map (· + 1)):=by
   simp only [dstep]; rw [if_neg (fun h=>hc h.1),if_pos h.1]
  rw [this,dfold_digits a _ _ h.2]
  cases k <;> simp; omega
theorem dfold_point {a b:List UInt8} (ha:a.all digitB = true) (hne:a ≠ []) (hb:b.all digitB = true):dfold (a ++ 46 :: b) = some (a ++ b,some b.length):=by
 unfold dfold
 rw [List.foldl_append,dfold_digits a [] none ha,List.foldl_cons]
 have:dstep (some ([] ++ a,Option.map (· + a.length) none)) 46 = some (a,some 0):=by
  simp [dstep,hne]
 rw [this,dfold_digits b a (some 0) hb]
 simp
theorem takeWhile_all (p:UInt8→Bool) (l:List UInt8):(l.takeWhile p).all p = true:=by
 induction l with
 | nil=>rfl
 | cons c l ih =>
  rw [List.takeWhile_cons]
  split
  ·rename_i h; simp [h,ih]
  ·rfl
theorem decB_split {l:List UInt8} (h:decB l = true):∃ a b,l = a ++ 46 :: b∧a.all digitB = true∧a ≠ []∧b.all digitB = true∧b ≠ []∧l.takeWhile digitB = a∧l.drop (a.length + 1) = b:=by
 simp only [decB,Bool.and_eq_true,decide_eq_true_eq,intB] at h
 obtain ⟨⟨h1,h2⟩,h3,h4⟩:=h
 refine ⟨l.takeWhile digitB,l.drop ((l.takeWhile digitB).length + 1),?_,takeWhile_all _ _,h1,h4,h3,rfl,rfl⟩
 have hlt:=(List.getElem?_eq_some_iff.1 h2).1
 have hv:=(List.getElem?_eq_some_iff.1 h2).2
 have e1:l.take (l.takeWhile digitB).length = l.takeWhile digitB:=(List.prefix_iff_eq_take.1 (List.takeWhile_prefix digitB)).symm
 conv=>lhs; rw [← List.take_append_drop (l.takeWhile digitB).length l,e1,List.drop_eq_getElem_cons hlt,hv]
theorem negB_digit {c:UInt8} {t:List UInt8} (h:digitB c = true):negB (c :: t) = false:=by
 have:c ≠ 45:=by rintro rfl; simp [digitB] at h
 simp [negB,this]
theorem decP_decB {l:List UInt8} (h:decB l = true):decP l = (if decErr l = 0 then (decVal l:Int) else 0,decErr l):=by
 obtain ⟨a,b,h1,h2,h3,h4,h5,h6,h7⟩:=decB_split h
 have hd:=dfold_point h2 h3 h4
 rw [← h1] at hd
 have hneg:negB l = false:=by
  cases a with
  | nil=>exact absurd rfl h3
  | cons c t =>
   simp only [List.all_cons,Bool.and_eq_true] at h2
   rw [h1]; exact negB_digit h2.1
 have hb:0 < b.length:=List.length_pos_iff.2 h5
 simp only [decP,hneg,Bool.false_eq_true,if_false,decR,hd,decErr,decVal,h6,h7,Option.getD_some]
 by_cases h8:6 < b.length
 ·rw [if_pos (.inr (.inr h8)),if_pos h8]; rfl
 ·have hab:a ++ b ≠ []:=by simp [h3]
  have hno:¬ (a ++ b = []∨some b.length = some 0∨6 < b.length):=by
   rintro (h | h | h)
   ·exact hab h
   ·simp only [Option.some.injEq] at h; omega
   ·exact h8 h
  rw [if_neg hno,if_neg h8]
  simp only [decFin]
  by_cases h9:2 ^ 60 < valX (a ++ b) * 10 ^ (6 - b.length)
  ·rw [if_pos h9,if_pos h9]; rfl
  ·rw [if_neg h9,if_neg h9]; rfl
end Go.Abs.Lx
namespace Go.Abs.Lx
open Go.Proofs L8
structure X162 where
 i:Nat
 ds:List UInt8
 k:Option Nat
 x:Int
 big:Bool
def ptv (i:Nat):Option Nat→Int
 | none=>-1
 | some j=>(i:Int) - j - 1
structure Inv162 (r:List UInt8) (y:X162):Prop where
 i:y.i≤r.length
 fold:dfold (r.take y.i) = some (y.ds,y.k)
 k:∀ j,y.k = some j→j + 1≤y.i∧y.ds ≠ []
 k0:y.k = none→y.ds.length = y.i
 small:y.big = false→y.x = valX y.ds∧valX y.ds≤1152921504606846976
 great:y.big = true→1152921504606846976 < valX y.ds
 x:0≤y.x∧y.x≤1152921504606846976
def restB (s:List UInt8):List UInt8:=if negB s then s.drop 1 else s
structure End162 (r:List UInt8) (y:X162):Prop where
 inv:Inv162 r y
 i:y.i = r.length
def a162 (s:List UInt8):Anns:=⟨fun k=>match k with
 | 6=>some { α:=X162,slots:=[2,4,5,6,7,8],nb:=0,vals:=fun y=>[.int .i64 y.x,.str (restB s),.bool (negB s),.int .i64 (ptv y.i y.k),.bool y.big,.int .i64 y.i],sS:=fun _=>⟨[],[]⟩,I:=Inv162 (restB s),μ:=fun y=>(restB s).length - y.i,bools:=[7] }
 | 1000004=>some { α:=Unit,slots:=[2,4,5],nb:=0,vals:=fun _=>[.int .i64 0,.str (restB s),.bool (negB s)],sS:=fun _=>⟨[],[]⟩,I:=fun _=>True,μ:=fun _=>0 }
 | 1000018=>some { α:=X162,slots:=[2,4,5,6,7],nb:=0,vals:=fun y=>[.int .i64 y.x,.str (restB s),.bool (negB s),.int .i64 (ptv y.i y.k),.bool y.big],sS:=fun _=>⟨[],[]⟩,I:=End162 (restB s),μ:=fun _=>0,bools:=[7,5] }
 | _=>none,nA⟩
end Go.Abs.Lx
namespace Go.Abs.Lx
open Go.Proofs L8
abbrev w162c5:=AV.tup [AV.int IntKind.i64 (0:Int),AV.int IntKind.i64 (3:Int)]
abbrev w162c2 (s:List UInt8):AV × List (Nat × TypeId):=(AV.tup [AV.int IntKind.i64 (decP s).fst,AV.int IntKind.i64 (decP s).snd],[])
abbrev w162c17 (x:X162) (c:UInt8):=x.x > IntKind.i64.wrap ((IntKind.i64.wrap ((1152921504606846976:Int) - IntKind.i64.wrap (IntKind.u8.wrap ((↑c.toNat:Int) - (48:Int))))).tdiv (10:Int))
abbrev w162c16 (x:X162) (s:List UInt8):List AV:=[I6 x.x,AV.str (restB s),AV.bool (negB s),I6 (ptv x.i x.k),AV.bool true,I6 (IntKind.i64.wrap ((↑x.i:Int) + (1:Int)))]
abbrev w162c7 (y:X162) (s:List UInt8):List AV:=[I6 y.x,AV.str (restB s),AV.bool (negB s),I6 (ptv y.i y.k),AV.bool y.big,I6 (↑y.i:Int)]
abbrev w162c1 (c:UInt8) (s:List UInt8) (x:X162):Prop:=decide ((↑c.toNat:Int) < (48:Int)) = false→(decide ((↑c.toNat:Int) > (57:Int)) = true→RetIs w162c5 [] (w162c2 s))∧(decide ((↑c.toNat:Int) > (57:Int)) = false→(10:Int) ≠ (0:Int)∧(decide (w162c17 x c) = true→∃ (y:X162),ValsAre (w162c16 x s) (w162c7 y s)∧StIs { boxes:=[],live:=[] } { boxes:=[],live:=[] }∧Inv162 (restB s) y∧(restB s).length - y.i < (restB s).length - x.i)∧(decide (w162c17 x c) = false→∃ (y:X162),ValsAre [I6 (IntKind.i64.wrap (IntKind.i64.wrap ((10:Int) * x.x) + IntKind.i64.wrap (IntKind.u8.wrap ((↑c.toNat:Int) - (48:Int))))),AV.str (restB s),AV.bool (negB s),I6 (ptv x.i x.k),AV.bool false,I6 (IntKind.i64.wrap ((↑x.i:Int) + (1:Int)))] (w162c7 y s)∧StIs { boxes:=[],live:=[] } { boxes:=[],live:=[] }∧Inv162 (restB s) y∧(restB s).length - y.i < (restB s).length - x.i))
abbrev w162c6 (s:List UInt8) (x:X162):=IntKind.i64.wrap ((↑(restB s).length:Int) - ptv x.i x.k) - (1:Int)
abbrev w162c18 (s:List UInt8) (x:X162):=IntKind.i64.wrap (w162c6 s x) == (0:Int)
abbrev w162c20 (s:List UInt8) (x:X162):Prop:=decide (IntKind.i64.wrap (w162c6 s x) > (6:Int)) = true→RetIs w162c5 [] (w162c2 s)
abbrev w162c13 (s:List UInt8):Prop:=(restB s == []) = true→RetIs w162c5 [] (w162c2 s)
abbrev w162c12 (s:List UInt8) (x:X162):Prop:=(0:Int)≤IntKind.i64.wrap ((6:Int) - IntKind.i64.wrap (w162c6 s x))∧IntKind.i64.wrap ((6:Int) - IntKind.i64.wrap (w162c6 s x)) < (7:Int)
abbrev w162c8:List AV:=[AV.agg [I6 1,I6 10,I6 100,I6 1000,I6 10000,I6 100000,I6 1000000]]
abbrev w162c15 (s:List UInt8) (x:X162):=(0:Nat) + (IntKind.i64.wrap ((6:Int) - IntKind.i64.wrap (w162c6 s x))).toNat * (1:Nat)
abbrev w162c19:=AV.tup [AV.int IntKind.i64 (0:Int),AV.int IntKind.i64 (2:Int)]
abbrev w162c3 (x:X162) (s:List UInt8):Prop:=decide (ptv x.i x.k ≥ (0:Int)) = true→((w162c18 s x) = true→RetIs w162c5 [] (w162c2 s))∧((w162c18 s x) = false→(w162c20 s x)∧(decide (IntKind.i64.wrap (w162c6 s x) > (6:Int)) = false→(w162c13 s)∧((restB s == []) = false→(w162c12 s x)∧∃ (n:Int),takeAt PQ 3 w162c8 0 (w162c15 s x) = some (AV.int IntKind.i64 n)∧RetIs w162c19 [] (w162c2 s))))
abbrev w162c4 (c:UInt8) (s:List UInt8) (x:X162):Prop:=decide ((↑c.toNat:Int) < (48:Int)) = false→(decide ((↑c.toNat:Int) > (57:Int)) = true→RetIs w162c5 [] (w162c2 s))∧(decide ((↑c.toNat:Int) > (57:Int)) = false→∃ (y:X162),ValsAre (w162c16 x s) (w162c7 y s)∧StIs { boxes:=[],live:=[] } { boxes:=[],live:=[] }∧Inv162 (restB s) y∧(restB s).length - y.i < (restB s).length - x.i)
abbrev w162c14 (x:X162) (n:Int):=x.x > IntKind.i64.wrap (Int.tdiv (1152921504606846976:Int) n)
abbrev w162c9 (x:X162) (n:Int) (s:List UInt8):Prop:=decide (w162c14 x n) = true→RetIs w162c19 [] (w162c2 s)
abbrev w162c10 (x:X162) (s:List UInt8):Prop:=decide (ptv x.i x.k ≥ (0:Int)) = false→(w162c13 s)∧((restB s == []) = false→((0:Int)≤(6:Int)∧(6:Int) < (7:Int))∧∃ (n:Int),some (AV.int IntKind.i64 1000000) = some (AV.int IntKind.i64 n)∧RetIs w162c19 [] (w162c2 s))
abbrev w162c11 (c:UInt8) (s:List UInt8):Prop:=decide ((↑c.toNat:Int) < (48:Int)) = true→RetIs w162c5 [] (w162c2 s)
abbrev w162c21 (x:X162) (n:Int) (s:List UInt8):Prop:=decide (w162c14 x n) = false→RetIs (AV.tup [AV.int IntKind.i64 (IntKind.i64.wrap ((0:Int) - IntKind.i64.wrap (x.x * n))),AV.int IntKind.i64 0]) [] (w162c2 s)
theorem w162 (m:Int) (s:List UInt8):(pureW PQ (GQ m) XL (tbl []) (itbl []) (a162 s) [] 162 [.str s] (.tup [.int .i64 (decP s).1,.int .i64 (decP s).2],[])) =
(((((!s == []) = true→(0:Int)≤(0:Int)∧∃ (c:UInt8),s[(0:Nat)]? = some c∧(((↑c.toNat:Int) == (45:Int)) = true→(0:Int)≤(1:Int)∧((1:Nat)≤s.length∧s.length≤s.length)∧∃ (_y:Unit),ValsAre [I6 0,AV.str (List.drop 1 (List.take s.length s)),AV.bool true] [I6 0,AV.str (restB s),AV.bool (negB s)]∧StIs { boxes:=[],live:=[] } { boxes:=[],live:=[] }∧True∧True)∧(((↑c.toNat:Int) == (45:Int)) = false→∃ (_y:Unit),ValsAre [I6 0,AV.str s,AV.bool false] [I6 0,AV.str (restB s),AV.bool (negB s)]∧StIs { boxes:=[],live:=[] } { boxes:=[],live:=[] }∧True∧True))∧((!s == []) = false→∃ (_y:Unit),ValsAre [I6 0,AV.str s,AV.bool false] [I6 0,AV.str (restB s),AV.bool (negB s)]∧StIs { boxes:=[],live:=[] } { boxes:=[],live:=[] }∧True∧True))∧∀ (_x:Unit),True→True→((∃ (y:X162),ValsAre [I6 0,AV.str (restB s),AV.bool (negB s),I6 (-1),AV.bool false,I6 0] (w162c7 y s)∧StIs { boxes:=[],live:=[] } { boxes:=[],live:=[] }∧Inv162 (restB s) y∧True)∧∀ (x:X162),Inv162 (restB s) x→(x.big = true→(decide ((↑x.i:Int) < (↑(restB s).length:Int)) = true→(0:Int)≤(↑x.i:Int)∧∃ (c:UInt8),(restB s)[(↑x.i:Int).toNat]? = some c∧(((↑c.toNat:Int) == (46:Int)) = true→(decide (ptv x.i x.k < (0:Int)) = true→(decide ((↑x.i:Int) > (0:Int)) = true→∃ (y:X162),ValsAre [I6 x.x,AV.str (restB s),AV.bool (negB s),I6 (↑x.i:Int),AV.bool true,I6 (IntKind.i64.wrap ((↑x.i:Int) + (1:Int)))] (w162c7 y s)∧StIs { boxes:=[],live:=[] } { boxes:=[],live:=[] }∧Inv162 (restB s) y∧(restB s).length - y.i < (restB s).length - x.i)∧(decide ((↑x.i:Int) > (0:Int)) = false→(w162c11 c s)∧(w162c4 c s x)))∧(decide (ptv x.i x.k < (0:Int)) = false→(w162c11 c s)∧(w162c4 c s x)))∧(((↑c.toNat:Int) == (46:Int)) = false→(w162c11 c s)∧(w162c4 c s x)))∧(decide ((↑x.i:Int) < (↑(restB s).length:Int)) = false→∃ (y:X162),ValsAre [I6 x.x,AV.str (restB s),AV.bool (negB s),I6 (ptv x.i x.k),AV.bool true] [I6 y.x,AV.str (restB s),AV.bool (negB s),I6 (ptv y.i y.k),AV.bool y.big]∧StIs { boxes:=[],live:=[] } { boxes:=[],live:=[] }∧End162 (restB s) y∧True))∧(x.big = false→(decide ((↑x.i:Int) < (↑(restB s).length:Int)) = true→(0:Int)≤(↑x.i:Int)∧∃ (c:UInt8),(restB s)[(↑x.i:Int).toNat]? = some c∧(((↑c.toNat:Int) == (46:Int)) = true→(decide (ptv x.i x.k < (0:Int)) = true→(decide ((↑x.i:Int) > (0:Int)) = true→∃ (y:X162),ValsAre [I6 x.x,AV.str (restB s),AV.bool (negB s),I6 (↑x.i:Int),AV.bool false,I6 (IntKind.i64.wrap ((↑x.i:Int) + (1:Int)))] (w162c7 y s)∧StIs { boxes:=[],live:=[] } { boxes:=[],live:=[] }∧Inv162 (restB s) y∧(restB s).length - y.i < (restB s).length - x.i)∧(decide ((↑x.i:Int) > (0:Int)) = false→(w162c11 c s)∧(w162c1 c s x)))∧(decide (ptv x.i x.k < (0:Int)) = false→(w162c11 c s)∧(w162c1 c s x)))∧(((↑c.toNat:Int) == (46:Int)) = false→(w162c11 c s)∧(w162c1 c s x)))∧(decide ((↑x.i:Int) < (↑(restB s).length:Int)) = false→∃ (y:X162),ValsAre [I6 x.x,AV.str (restB s),AV.bool (negB s),I6 (ptv x.i x.k),AV.bool false] [I6 y.x,AV.str (restB s),AV.bool (negB s),I6 (ptv y.i y.k),AV.bool y.big]∧StIs { boxes:=[],live:=[] } { boxes:=[],live:=[] }∧End162 (restB s) y∧True)))∧∀ (x:X162),End162 (restB s) x→True→(x.big = true→(negB s = true→(w162c3 x s)∧(w162c10 x s))∧(negB s = false→(w162c3 x s)∧(w162c10 x s)))∧(x.big = false→(negB s = true→(decide (ptv x.i x.k ≥ (0:Int)) = true→((w162c18 s x) = true→RetIs w162c5 [] (w162c2 s))∧((w162c18 s x) = false→(w162c20 s x)∧(decide (IntKind.i64.wrap (w162c6 s x) > (6:Int)) = false→(w162c13 s)∧((restB s == []) = false→(w162c12 s x)∧∃ (n:Int),takeAt PQ 3 w162c8 0 (w162c15 s x) = some (I6 n)∧n ≠ (0:Int)∧(w162c9 x n s)∧(w162c21 x n s)))))∧(decide (ptv x.i x.k ≥ (0:Int)) = false→(w162c13 s)∧((restB s == []) = false→((0:Int)≤(6:Int)∧(6:Int) < (7:Int))∧∃ (n:Int),some (I6 1000000) = some (I6 n)∧n ≠ (0:Int)∧(w162c9 x n s)∧(w162c21 x n s))))∧(negB s = false→(decide (ptv x.i x.k ≥ (0:Int)) = true→((w162c18 s x) = true→RetIs w162c5 [] (w162c2 s))∧((w162c18 s x) = false→(w162c20 s x)∧(decide (IntKind.i64.wrap (w162c6 s x) > (6:Int)) = false→(w162c13 s)∧((restB s == []) = false→(w162c12 s x)∧∃ (n:Int),takeAt PQ 3 w162c8 0 (w162c15 s x) = some (I6 n)∧n ≠ (0:Int)∧(w162c9 x n s)∧(decide (w162c14 x n) = false→RetIs (AV.tup [I6 (IntKind.i64.wrap (x.x * n)),I6 0]) [] (w162c2 s))))))∧(decide (ptv x.i x.k ≥ (0:Int)) = false→(w162c13 s)∧((restB s == []) = false→((0:Int)≤(6:Int)∧(6:Int) < (7:Int))∧∃ (n:Int),some (I6 1000000) = some (I6 n)∧n ≠ (0:Int)∧(w162c9 x n s)∧(decide (w162c14 x n) = false→RetIs (AV.tup [I6 (IntKind.i64.wrap (x.x * n)),I6 0]) [] (w162c2 s)))))))∧True∧True):=by kernel_rfl
end Go.Abs.Lx
namespace Go.Abs.Lx
open Go.Proofs L8
abbrev w85c1 (es:List AV) (a:Int) (code:Int) (p:Nat × TypeId) (n:Nat):AV × St:=(AV.tup [],{ boxes:=[some [AV.sl 2 (if es.length < (32:Nat) then es ++ [AV.agg [I6 a,I6 code]] else es) (Own.tok 1)],some keptClasses,some [I6 a]],live:=[p,(if es.length < (32:Nat) then n + (1:Nat) else n,86)] })
abbrev w85c2 (es:List AV) (a:Int) (code:Int):List (Option (List AV)):=[some [AV.sl 2 (es ++ [AV.agg [I6 a,I6 code]]) (Own.tok 1)],some keptClasses,some [I6 a]]
theorem w85 (m:Int) (code a:Int) (es:List AV) (p:Nat × TypeId) (n:Nat):(openW PQ (GQ m) XL (tbl []) (itbl []) nAn [] 85 [.int .i64 code,.ptr 0 0,.ptr 2 0] ⟨[some [.sl 2 es (.tok 1)],some keptClasses,some [.int .i64 a]],[p,(n,86)]⟩ (.tup [],⟨[some [.sl 2 (if es.length < 32 then es ++ [.agg [.int .i64 a,.int .i64 code]] else es) (.tok 1)],some keptClasses,some [.int .i64 a]],[p,(if es.length < 32 then n + 1 else n,86)]⟩)) =
((decide ((↑es.length:Int) < (32:Int)) = true→((2:Nat) = (2:Nat)∨es = [])∧(es.length + (1:Nat)) * (17:Nat)≤(70368744177664:Nat)∧n = es.length∧RetOpen (AV.p2 3 (AV.tup []) && boxesOk 3 (w85c2 es a code)) (AV.tup []) { boxes:=(w85c2 es a code),live:=[p,(es.length + (1:Nat),86)] } (w85c1 es a code p n))∧(decide ((↑es.length:Int) < (32:Int)) = false→RetOpen (AV.p2 3 (AV.tup []) && boxesOk 3 [some [AV.sl 2 es (Own.tok 1)],some keptClasses,some [AV.int IntKind.i64 a]]) (AV.tup []) { boxes:=[some [AV.sl 2 es (Own.tok 1)],some keptClasses,some [AV.int IntKind.i64 a]],live:=[p,(n,86)] } (w85c1 es a code p n))):=by kernel_rfl
theorem w128 (m c:Int) (bs:List UInt8):(pureW PQ (GQ m) XL (tbl lib8) (itbl []) nAn [] 128 [.sl 1 (bytesL bs) .no,.int .u8 c] (.int .i64 (Lib.indexByte bs c.toNat.toUInt8),[])) =
(∃ (n:Int),CallIs (tbl [(161,sIndexByte),(163,sIndexByteString),(133,sContains)] 161 [AV.sl 1 (bytesL bs) Own.no,AV.int IntKind.u8 c]) (I6 n) []∧RetIs (I6 n) [] (I6 (Lib.indexByte bs c.toNat.toUInt8),[])):=by kernel_rfl
theorem w128f (m c:Int) (bs:List UInt8):(pureW PQ (GQ m) XL (tbl lib8) (itbl []) nAn [] 128 [.sl 1 (bytesL bs) .full,.int .u8 c] (.int .i64 (Lib.indexByte bs c.toNat.toUInt8),[])) =
(∃ (n:Int),CallIs (tbl [(161,sIndexByte),(163,sIndexByteString),(133,sContains)] 161 [AV.sl 1 (bytesL bs) Own.full,AV.int IntKind.u8 c]) (I6 n) []∧RetIs (I6 n) [] (I6 (Lib.indexByte bs c.toNat.toUInt8),[])):=by kernel_rfl
theorem w170 (m c:Int) (l:List UInt8):(pureW PQ (GQ m) XL (tbl lib8) (itbl []) nAn [] 170 [.str l,.int .u8 c] (.int .i64 (Lib.indexByte l c.toNat.toUInt8),[])) =
(∃ (n:Int),CallIs (some (I6 (Lib.indexByte l c.toNat.toUInt8),[])) (I6 n) []∧RetIs (I6 n) [] (I6 (Lib.indexByte l c.toNat.toUInt8),[])):=by kernel_rfl
theorem w132 (m c:Int) (l:List UInt8):(pureW PQ (GQ m) XL (tbl [(170,sIndexByteString)]) (itbl []) nAn [] 132 [.str l,.int .u8 c] (.int .i64 (Lib.indexByte l c.toNat.toUInt8),[])) =
(∃ (n:Int),CallIs (some (I6 (Lib.indexByte l c.toNat.toUInt8),[])) (I6 n) []∧RetIs (I6 n) [] (I6 (Lib.indexByte l c.toNat.toUInt8),[])):=by kernel_rfl
theorem w131 (m:Int) (bs:List UInt8) (sz:Nat) (o:Own):(pureW PQ (GQ m) XL (tbl []) (itbl []) (a131 bs) [] 131 [.sl sz (bytesL bs) o] (.int .i64 (txtErr bs),[])) =
((decide ((↑(bytesL bs).length:Int) > (64:Int)) = true→RetIs (I6 2) [] (I6 (txtErr bs),[]))∧(decide ((↑(bytesL bs).length:Int) > (64:Int)) = false→(∃ (y:Nat),ValsAre [AV.sl sz (bytesL bs) o,I6 (↑(bytesL bs).length:Int),I6 0] [AV.sl 1 (bytesL bs) Own.no,I6 (↑bs.length:Int),I6 (↑y:Int)]∧StIs { boxes:=[],live:=[] } { boxes:=[],live:=[] }∧(y≤bs.length∧(List.take y bs).any badB = false)∧True)∧∀ (x:Nat),x≤bs.length∧(List.take x bs).any badB = false→(decide ((↑x:Int) < (↑bs.length:Int)) = true→((0:Int)≤(↑x:Int)∧(↑x:Int) < (↑(bytesL bs).length:Int))∧∃ (n:Int),takeAt PQ 5 (bytesL bs) (↑x:Int).toNat 0 = some (AV.int IntKind.u8 n)∧(decide (n < (32:Int)) = true→RetIs (I6 3) [] (I6 (txtErr bs),[]))∧(decide (n < (32:Int)) = false→(decide (n > (126:Int)) = true→RetIs (I6 3) [] (I6 (txtErr bs),[]))∧(decide (n > (126:Int)) = false→((n == (92:Int)) = true→RetIs (I6 3) [] (I6 (txtErr bs),[]))∧((n == (92:Int)) = false→∃ (y:Nat),ValsAre [AV.sl 1 (bytesL bs) Own.no,I6 (↑bs.length:Int),I6 (IntKind.i64.wrap ((↑x:Int) + (1:Int)))] [AV.sl 1 (bytesL bs) Own.no,I6 (↑bs.length:Int),I6 (↑y:Int)]∧StIs { boxes:=[],live:=[] } { boxes:=[],live:=[] }∧(y≤bs.length∧(List.take y bs).any badB = false)∧bs.length - y < bs.length - x))))∧(decide ((↑x:Int) < (↑bs.length:Int)) = false→RetIs (I6 0) [] (I6 (txtErr bs),[])))):=by kernel_rfl
abbrev w127c1 (b0:List AV) (b2:List AV) (bs:List UInt8):List (Option (List AV)):=[some b0,some keptClasses,some b2,some [AV.sl 1 (bytesL bs) Own.no],some [AV.ptr 1 0]]
theorem w127 (m n:Int) (ps:List AV) (bs:List UInt8) (b0 b2:List AV) (p q:Nat × TypeId):(openW PQ (GQ m) XL (tbl [(128,s128)]) (itbl []) (a127 n ps .full bs (S37 b0 b2 (bytesL bs) p q)) [] 127 [.int .i64 n,.sl 1 ps .full,.ptr 3 0,.ptr 4 0] (S37 b0 b2 (bytesL bs) p q) (.int .i64 (n + runL ps (bs.drop n.toNat)),S37 b0 b2 (bytesL bs) p q)) =
((∃ (y:Nat),ValsAre [I6 n,AV.sl 1 ps Own.full,AV.ptr 3 0,AV.ptr 4 0] [I6 (n + (↑y:Int)),AV.sl 1 ps Own.full,AV.ptr 3 0,AV.ptr 4 0]∧StIs { boxes:=(w127c1 b0 b2 bs),live:=[p,q] } { boxes:=(w127c1 b0 b2 bs),live:=[p,q] }∧y≤runL ps (List.drop n.toNat bs)∧True)∧∀ (x:Nat),x≤runL ps (List.drop n.toNat bs)→(decide (n + (↑x:Int) < (↑(bytesL bs).length:Int)) = true→((0:Int)≤n + (↑x:Int)∧n + (↑x:Int) < (↑(bytesL bs).length:Int))∧∃ (n_1:Int),takeAt PQ 5 (bytesL bs) (n + (↑x:Int)).toNat 0 = some (AV.int IntKind.u8 n_1)∧((0:Int)≤n_1∧n_1 < (256:Int))∧∃ (n_2:Int),takeA (some false) (some 1) keptClasses ((0:Nat) + n_1.toNat * (1:Nat)) = some (AV.int IntKind.u8 n_2)∧∃ (n_3:Int),CallIs (tbl [(128,s128)] 128 [AV.sl 1 ps Own.full,AV.int IntKind.u8 n_2]) (I6 n_3) []∧(decide (n_3 ≥ (0:Int)) = true→∃ (y:Nat),ValsAre [I6 (IntKind.i64.wrap (n + (↑x:Int) + (1:Int))),AV.sl 1 ps Own.full,AV.ptr 3 0,AV.ptr 4 0] [I6 (n + (↑y:Int)),AV.sl 1 ps Own.full,AV.ptr 3 0,AV.ptr 4 0]∧StIs { boxes:=(w127c1 b0 b2 bs),live:=[p,q] } { boxes:=(w127c1 b0 b2 bs),live:=[p,q] }∧y≤runL ps (List.drop n.toNat bs)∧((↑bs.length:Int) - n - (↑y:Int)).toNat < ((↑bs.length:Int) - n - (↑x:Int)).toNat)∧(decide (n_3 ≥ (0:Int)) = false→RetOpen (AV.p2 5 (I6 (n + (↑x:Int))) && boxesOk 5 (w127c1 b0 b2 bs)) (I6 (n + (↑x:Int))) { boxes:=(w127c1 b0 b2 bs),live:=[p,q] } (I6 (n + (↑(runL ps (List.drop n.toNat bs)):Int)),{ boxes:=(w127c1 b0 b2 bs),live:=[p,q] })))∧(decide (n + (↑x:Int) < (↑(bytesL bs).length:Int)) = false→RetOpen (AV.p2 5 (I6 (n + (↑x:Int))) && boxesOk 5 (w127c1 b0 b2 bs)) (I6 (n + (↑x:Int))) { boxes:=(w127c1 b0 b2 bs),live:=[p,q] } (I6 (n + (↑(runL ps (List.drop n.toNat bs)):Int)),{ boxes:=(w127c1 b0 b2 bs),live:=[p,q] }))):=by kernel_rfl
end Go.Abs.Lx
namespace Go.Abs.Lx
open Go.Proofs L8
theorem retOpen_iff {ok:Bool} {r:AV} {S:St} {s:AV × St}:RetOpen ok r S s ↔ ok = true∧(r,S) = s:=⟨fun h=>⟨h.ok,h.eq⟩,fun h=>⟨h.1,h.2⟩⟩
theorem retLax_iff {r:AV} {s:AV × List (Nat × TypeId)}:RetLax r s ↔ Lax2 r s.1∧s.1.closed2 = true∧s.2 = []:=⟨fun h=>⟨h.lax,h.closed,h.none⟩,fun h=>⟨h.1,h.2.1,h.2.2⟩⟩
theorem p85 (m code a:Int) (es:List AV) (p:Nat × TypeId) (n:Nat) (hn:n = es.length) (hl:es.length≤1000000):OpenOk PQ (GQ m) XL (tbl []) (itbl []) nAn [] 85 [.int .i64 code,.ptr 0 0,.ptr 2 0] ⟨[some [.sl 2 es (.tok 1)],some keptClasses,some [.int .i64 a]],[p,(n,86)]⟩ (.tup [],⟨[some [.sl 2 (if es.length < 32 then es ++ [.agg [.int .i64 a,.int .i64 code]] else es) (.tok 1)],some keptClasses,some [.int .i64 a]],[p,(if es.length < 32 then n + 1 else n,86)]⟩):=by
 constructor
 rw [w85]; unfold w85c2 w85c1 I6
 subst hn
 refine ⟨fun h=>⟨.inl rfl,by omega,rfl,?_⟩,fun h=>?_⟩
 ·have h':es.length < 32:=by have:=of_decide_eq_true h; omega
  exact ⟨by kernel_rfl,by simp [h']⟩
 ·have h':¬ es.length < 32:=by have:=of_decide_eq_false h; omega
  exact ⟨by kernel_rfl,by simp [h']⟩
theorem t50 {bs:List UInt8} {o:Own} {c:Int} (hb:bs ≠ []):sIndexByte [.sl 1 (bytesL bs) o,.int .u8 c] = some (.int .i64 (Lib.indexByte bs c.toNat.toUInt8),[]):=by
 have h:=unBytes_mk bs
 have h1:bytesL bs ≠ []:=by simpa [bytesL] using hb
 show (if 1 = 1∧bytesL bs ≠ [] then (unBytes (bytesL bs)).map fun l=>(AV.int .i64 (Lib.indexByte l c.toNat.toUInt8),([]:List (Nat × TypeId))) else none) = _
 rw [if_pos ⟨rfl,h1⟩,h]
 rfl
theorem p128 (m c:Int) (bs:List UInt8) (hb:bs ≠ []):PureOk PQ (GQ m) XL (tbl lib8) (itbl []) nAn [] 128 [.sl 1 (bytesL bs) .no,.int .u8 c] (.int .i64 (Lib.indexByte bs c.toNat.toUInt8),[]):=by
 constructor
 rw [w128]; unfold I6
 exact ⟨_,⟨t50 (o:=.no) hb⟩,⟨rfl⟩⟩
theorem p128f (m c:Int) (bs:List UInt8) (hb:bs ≠ []):PureOk PQ (GQ m) XL (tbl lib8) (itbl []) nAn [] 128 [.sl 1 (bytesL bs) .full,.int .u8 c] (.int .i64 (Lib.indexByte bs c.toNat.toUInt8),[]):=by
 constructor
 rw [w128f]; unfold I6
 exact ⟨_,⟨t50 (o:=.full) hb⟩,⟨rfl⟩⟩
theorem p170 (m c:Int) (l:List UInt8):PureOk PQ (GQ m) XL (tbl lib8) (itbl []) nAn [] 170 [.str l,.int .u8 c] (.int .i64 (Lib.indexByte l c.toNat.toUInt8),[]):=by
 constructor
 rw [w170]; unfold I6
 exact ⟨_,⟨rfl⟩,⟨rfl⟩⟩
theorem p132 (m c:Int) (l:List UInt8):PureOk PQ (GQ m) XL (tbl [(170,sIndexByteString)]) (itbl []) nAn [] 132 [.str l,.int .u8 c] (.int .i64 (Lib.indexByte l c.toNat.toUInt8),[]):=by
 constructor
 rw [w132]; unfold I6
 exact ⟨_,⟨rfl⟩,⟨rfl⟩⟩
theorem any_take_succ {p:UInt8→Bool} {bs:List UInt8} {x:Nat} (hx:x < bs.length):(bs.take (x + 1)).any p = ((bs.take x).any p || p (bs.getD x 0)):=by
 rw [List.take_succ_eq_append_getElem hx,List.any_append]
 simp [hx]
theorem any_of_get {p:UInt8→Bool} {bs:List UInt8} {x:Nat} (hx:x < bs.length) (h:p (bs.getD x 0) = true):bs.any p = true:=by
 rw [List.any_eq_true]
 exact ⟨bs[x],List.getElem_mem hx,by simpa [hx] using h⟩
theorem p131 (m:Int) (bs:List UInt8) (sz:Nat) (hsz:sz = 1) (hl:bs.length≤1000000):PureOk PQ (GQ m) XL (tbl []) (itbl []) (a131 bs) [] 131 [.sl sz (bytesL bs) .no] (.int .i64 (txtErr bs),[]):=by
 constructor
 rw [w131]; unfold I6
 subst hsz
 simp only [valsAre_iff,stIs_iff,retIs_iff,take_u8_iff agg5 size5,Prod.mk.injEq,AV.int.injEq,List.cons.injEq,and_true,true_and,exists_eq_left',and_assoc,exists_and_left,decide_eq_true_eq,decide_eq_false_iff_not,bytesL_length,Int.toNat_natCast,beq_iff_eq,beq_eq_false_iff_ne,ne_eq,gt_iff_lt]
 refine ⟨fun h=>?_,fun h=>⟨⟨0,rfl,by omega,by simp⟩,fun x ⟨hx,hb⟩=>⟨fun hlt=>?_,fun hge=>?_⟩⟩⟩
 ·simp only [txtErr]; rw [if_pos (by omega)]
 ·have hlt':x < bs.length:=by omega
  have hnx:=any_take_succ (p:=badB) hlt'
  have hget:badB (bs.getD x 0) = true→bs.any badB = true:=any_of_get hlt'
  generalize bs.getD x 0 = c at *
  have hbad:badB c = (decide (c.toNat < 32) || decide (126 < c.toNat) || c == 92):=rfl
  have h92:c = 92 ↔ c.toNat = 92:=by rw [← UInt8.toNat_inj]; rfl
  have fin:badB c = true→(3:Int) = txtErr bs:=fun hb'=>by
   simp only [txtErr]
   rw [if_neg (by omega),if_pos (hget hb')]
  refine ⟨by omega,by omega,hlt',fun h1=>fin (by rw [hbad]; simp; omega),fun h1=>⟨fun h2=>fin (by rw [hbad]; simp; omega),fun h2=>⟨fun h3=>fin (by rw [hbad]; simp only [Bool.or_eq_true,decide_eq_true_eq,beq_iff_eq,h92]; omega),fun h3=>⟨x + 1,?_,by omega,?_,by omega⟩⟩⟩⟩
  ·rw [wrap64_in (by omega) (by omega)]; omega
  ·rw [hnx,hb,hbad]
   have:¬ c = 92:=by rw [h92]; omega
   simp [this]
   omega
 ·have hx':x = bs.length:=by omega
  subst hx'
  rw [List.take_length] at hb
  simp only [txtErr]
  rw [if_neg (by omega),if_neg (by simp [hb])]
theorem cls_get (c:UInt8):takeA (some false) (some 1) keptClasses c.toNat = some (.int .u8 (cls c.toNat)):=by
 have h:=c.toNat_lt
 have hlen:keptClasses.length = 256:=by kernel_rfl
 have h2:keptClasses[c.toNat]? = some (.int .u8 (cls c.toNat)):=by
  simp only [keptClasses,List.getElem?_map,List.getElem?_range (show c.toNat < 256 by omega),Option.map_some]
 simp only [takeA,h2]
theorem cls_lt (c:Nat):cls c < 9:=by
 unfold cls
 repeat' split
 all_goals omega
theorem ib_spec:∀ (l:List UInt8) (c:UInt8),(c ∈ l→Lib.indexByte l c = ((l.takeWhile (· != c)).length:Int))∧(c ∉ l→Lib.indexByte l c = -1)
 | [],c=>⟨fun h=>by simp at h,fun _=>rfl⟩
 | b :: l,c=>by
  obtain ⟨h1,h2⟩:=ib_spec l c
  simp only [Lib.indexByte,List.takeWhile_cons]
  by_cases hb:b = c
  ·subst hb
   simp
  ·have hb':(b == c) = false:=by simpa using hb
   have hb2:(b != c) = true:=by simpa using hb
   rw [hb',if_neg (by simp),hb2,if_pos rfl]
   refine ⟨fun h=>?_,fun h=>?_⟩
   ·have hm:c ∈ l:=by
     rcases List.mem_cons.1 h with h | h
     ·exact absurd h.symm hb
     ·exact h
    rw [h1 hm,if_neg (by simp)]
    simp
   ·rw [h2 (fun hm=>h (List.mem_cons_of_mem _ hm))]
    simp
theorem ib_ge {l:List UInt8} {c:UInt8}:0≤Lib.indexByte l c ↔ c ∈ l:=by
 obtain ⟨h1,h2⟩:=ib_spec l c
 by_cases h:c ∈ l
 ·rw [h1 h]; simp [h]
 ·rw [h2 h]; simp [h]
theorem ib_cls {qs:List UInt8} {c:UInt8}:0≤Lib.indexByte qs (cls c.toNat).toUInt8 ↔ inCls (bytesL qs) c = true:=by
 rw [ib_ge,inCls,bytesD_mk,List.any_eq_true]
 have hlt:=cls_lt c.toNat
 constructor
 ·intro h
  exact ⟨_,h,by simp; omega⟩
 ·rintro ⟨x,hx,he⟩
  have:x = (cls c.toNat).toUInt8:=by
   rw [← UInt8.toNat_inj]
   simp at he ⊢
   omega
  rwa [← this]
theorem p0_p1 {n:Nat} {v:AV} (h:v.p0 n = true):v.p1 n = true:=by
 cases v with
 | fn f cap=>simp only [AV.p0,List.isEmpty_iff] at h; subst h; rfl
 | agg cs=>simp [AV.p0] at h
 | _=>first | exact h | rfl
theorem all_p0_p1 {n:Nat} {l:List AV} (h:l.all (AV.p0 n) = true):l.all (AV.p1 n) = true:=by
 rw [List.all_eq_true] at h ⊢
 exact fun x hx=>p0_p1 (h x hx)
theorem p127 (m n:Int) (qs:List UInt8) (bs:List UInt8) (b0 b2:List AV) (p q:Nat × TypeId) (h0:b0.all (AV.p0 5) = true) (h2:b2.all (AV.p0 5) = true) (hn0:0≤n) (hn1:n≤bs.length) (hl:bs.length≤1000000) (hq:qs ≠ []) :
  OpenOk PQ (GQ m) XL (tbl [(128,s128)]) (itbl []) (a127 n (bytesL qs) .full bs (S37 b0 b2 (bytesL bs) p q)) [] 127 [.int .i64 n,.sl 1 (bytesL qs) .full,.ptr 3 0,.ptr 4 0] (S37 b0 b2 (bytesL bs) p q) (.int .i64 (n + runL (bytesL qs) (bs.drop n.toNat)),S37 b0 b2 (bytesL bs) p q):=by
 constructor
 rw [w127]; unfold w127c1 I6
 obtain ⟨k,rfl⟩:∃ k:Nat,n = k:=⟨n.toNat,by omega⟩
 have hok:boxesOk 5 [some b0,some keptClasses,some b2,some [AV.sl 1 (bytesL bs) Own.no],some [AV.ptr 1 0]] = true:=by
  have hk:keptClasses.all (AV.p1 5) = true:=by kernel_rfl
  simp only [boxesOk,Bool.or_true,all_p0_p1 h0,all_p0_p1 h2,hk,Bool.and_true,Bool.true_and]
  rfl
 have t38:∀ c:Nat,tbl [(128,s128)] 128 [.sl 1 (bytesL qs) .full,.int .u8 c] = some (.int .i64 (Lib.indexByte qs c.toUInt8),[]):=fun c=>by
  show s128 [.sl 1 (bytesL qs) .full,.int .u8 c] = _
  show (if 1 = 1∧bytesL qs ≠ [] then onBytes (bytesL qs) fun bs=>some (AV.int .i64 (Lib.indexByte bs ((c:Int)).toNat.toUInt8),([]:List (Nat × TypeId))) else none) = _
  rw [if_pos ⟨rfl,by simpa [bytesL] using hq⟩,onBytes,unBytes_mk]
  rfl
 simp only [Nat.zero_add,valsAre_iff,stIs_iff,retOpen_iff,take_u8_iff agg5 size5,List.cons.injEq,AV.int.injEq,Prod.mk.injEq,and_true,true_and,hok,Bool.and_true,Int.toNat_natCast,bytesL_length,decide_eq_true_eq,decide_eq_false_iff_not]
 refine ⟨⟨0,by omega,by omega⟩,fun x hx=>⟨fun hlt=>⟨by omega,((bs.getD (k + x) 0).toNat:Int),⟨by omega,by rw [show ((k:Int) + x).toNat = k + x by omega]⟩,⟨by omega,by have:=(bs.getD (k + x) 0).toNat_lt; omega⟩,(cls (bs.getD (k + x) 0).toNat:Int),by simpa using cls_get _,_,⟨t38 _⟩,fun hge=>?_,fun hge=>?_⟩,fun hge=>?_⟩⟩
 ·rw [ge_iff_le,ib_cls] at hge
  rw [wrap64_in (by omega) (by omega)]
  refine ⟨x + 1,by omega,?_,by omega⟩
  refine tw_next hx (by rw [List.length_drop]; omega) ?_
  rw [getD_drop']
  exact hge
 ·rw [ge_iff_le,ib_cls] at hge
  have:=tw_stop (p:=inCls (bytesL qs)) (l:=bs.drop k) (k:=x) hx (fun _=>by rw [getD_drop']; simpa using hge)
  simp only [runL]
  rw [← this]
  exact ⟨rfl,rfl⟩
 ·have:=tw_stop (p:=inCls (bytesL qs)) (l:=bs.drop k) (k:=x) hx (fun h=>by rw [List.length_drop] at h; omega)
  simp only [runL]
  rw [← this]
  exact ⟨rfl,rfl⟩
end Go.Abs.Lx
namespace Go.Abs.Lx
open Go.Proofs L8
abbrev w36c7:List AV:=[AV.ptr 0 0,AV.ptr 2 0]
abbrev w36c1 (bs:List UInt8) (y:X36):List AV:=[AV.sl 1 (bytesL bs) Own.no,AV.sl 3 (List.map tokA y.l) (Own.tok 0),AV.ptr 0 0,AV.int IntKind.i64 0,AV.ptr 1 0,AV.ptr 2 0,AV.int IntKind.i64 y.st,AV.fn 85 w36c7]
abbrev w36c2 (y:X36):St:={ boxes:=[some [AV.sl 2 (List.map pbX (List.take 32 y.b)) (Own.tok 1)],some keptClasses,some [AV.int IntKind.i64 (↑y.p:Int)]],live:=[(y.l.length,99),((List.take 32 y.b).length,86)] }
abbrev w36c3 (x:X36) (bs:List UInt8):=piece (List.drop (↑x.p:Int).toNat (bytesD (bytesL bs)))
abbrev w36c4 (bs:List UInt8) (x:X36):List AV:=[AV.sl 1 (bytesL bs) Own.no,AV.sl 3 (List.map tokA x.l) (Own.tok 0),AV.ptr 0 0,AV.int IntKind.i64 0,AV.ptr 1 0,AV.ptr 2 0,AV.int IntKind.i64 (↑x.p:Int),AV.fn 85 w36c7]
abbrev w36c6 (x:X36):=List.map pbX (List.take 32 x.b)
abbrev w36c14 (x:X36):=IntKind.i64.wrap ((↑x.p:Int) + (1:Int))
abbrev w36c5 (x:X36):St:={ boxes:=[some [AV.sl 2 (if (w36c6 x).length < (32:Nat) then List.map pbX (List.take 32 x.b) ++ [AV.agg [I6 (↑x.p:Int),I6 x.code]] else List.map pbX (List.take 32 x.b)) (Own.tok 1)],some keptClasses,some [I6 (w36c14 x)]],live:=[(x.l.length,99),(if (w36c6 x).length < (32:Nat) then (List.take 32 x.b).length + (1:Nat) else (List.take 32 x.b).length,86)] }
abbrev w36c8 (bs:List UInt8) (x:X36) (l:List UInt8):List AV:=[AV.sl 1 (bytesL bs) Own.no,AV.sl 3 (List.map tokA x.l ++ [AV.agg [I6 (w36c3 x bs).fst,AV.str l,I6 (↑x.p:Int)]]) (Own.tok 0),AV.ptr 0 0,I6 0,AV.ptr 1 0,AV.ptr 2 0,I6 x.st,AV.fn 85 w36c7]
abbrev w36c15 (x:X36):List AV:=[AV.sl 2 (w36c6 x) (Own.tok 1)]
abbrev w36c13 (x:X36) (bs:List UInt8):=(↑x.p:Int) + (↑(w36c3 x bs).snd.fst:Int)
abbrev w36c9 (x:X36) (bs:List UInt8):List (Option (List AV)):=[some (w36c15 x),some keptClasses,some [AV.int IntKind.i64 (w36c13 x bs)]]
abbrev w36c10 (bs:List UInt8) (x:X36):List AV:=[AV.sl 1 (bytesL bs) Own.no,AV.sl 3 (List.map tokA x.l) (Own.tok 0),AV.ptr 0 0,AV.int IntKind.i64 0,AV.ptr 1 0,AV.ptr 2 0,AV.int IntKind.i64 x.st,AV.fn 85 w36c7]
abbrev w36c11 (x:X36):Prop:=(List.take 32 x.b).length = (w36c6 x).length∧keptClasses = keptClasses∧(w36c6 x).length≤(1000000:Nat)
abbrev w36c12 (x:X36) (bs:List UInt8):=IntKind.i64.wrap ((↑x.p:Int) + (↑(w36c3 x bs).snd.fst:Int) - (1:Int))
abbrev w36c16 (bs:List UInt8):List AV:=[AV.sl 3 (List.map tokA (toksX bs)) Own.no,AV.sl 2 (List.map pbX (probsL bs)) Own.no,AV.int IntKind.i64 0]
abbrev w36c17 (x:X36) (bs:List UInt8):St:={ boxes:=(w36c9 x bs),live:=[((List.map tokA x.l).length + (1:Nat),99),((List.take 32 x.b).length,86)] }
theorem w36 (m:Int) (bs:List UInt8):(laxW PQ (GQ m) XL (tbl t12) (itbl [(85,s85),(86,s86)]) (a36 bs) [] 36 [bytesA bs] (if bs.length≤16384 then .tup [tkA (toksX bs) .no,badA (probsL bs) .no,.int .i64 0] else .tup [.sl 3 [] .no,.sl 2 [] .no,.int .i64 2],[])) =
(((decide ((↑(bytesL bs).length:Int) > (16384:Int)) = true→RetLax (AV.tup [AV.sl 0 [] Own.nil,AV.sl 0 [] Own.nil,I6 2]) (if bs.length≤(16384:Nat) then AV.tup (w36c16 bs) else AV.tup [AV.sl 3 [] Own.no,AV.sl 2 [] Own.no,I6 2],[]))∧(decide ((↑(bytesL bs).length:Int) > (16384:Int)) = false→CallIs (some (keptClassesA,[])) keptClassesA []∧∃ (y:X36),ValsAre [AV.sl 1 (bytesL bs) Own.no,AV.sl 3 [] (Own.tok 0),AV.ptr 0 0,I6 0,AV.ptr 1 0,AV.ptr 2 0,I6 (-1),AV.fn 85 w36c7] (w36c1 bs y)∧StIs { boxes:=[some [AV.sl 2 [] (Own.tok 1)],some keptClasses,some [I6 0]],live:=[(0,99),(0,86)] } (w36c2 y)∧Inv36 bs y∧True))∧(∀ (x:X36),Inv36 bs x→(((↑x.p:Int) == (↑(bytesL bs).length:Int)) = true→((3:Nat) = (3:Nat)∨List.map tokA x.l = [])∧((List.map tokA x.l).length + (1:Nat)) * (33:Nat)≤(70368744177664:Nat)∧x.l.length = (List.map tokA x.l).length∧RetLax (AV.tup [AV.sl 3 (List.map tokA x.l ++ [AV.agg [I6 6,AV.str [],I6 (↑x.p:Int)]]) (Own.tok 0),AV.sl 2 (w36c6 x) (Own.tok 1),I6 0]) (if bs.length≤(16384:Nat) then AV.tup (w36c16 bs) else AV.tup [AV.sl 3 [] Own.no,AV.sl 2 [] Own.no,I6 2],[]))∧(((↑x.p:Int) == (↑(bytesL bs).length:Int)) = false→(keptClasses = keptClasses∧((w36c15 x).all (AV.p0 3) = true∧[I6 (↑x.p:Int)].all (AV.p0 3) = true)∧∃ (bs_1:List UInt8),bytesL bs = bytesL bs_1∧bs_1.length≤(1000000:Nat)∧(0:Int)≤(↑x.p:Int)∧(↑x.p:Int) < (↑bs_1.length:Int))∧(((w36c3 x bs).fst == (-1:Int)) = true→∃ (y:X36),ValsAre [AV.sl 1 (bytesL bs) Own.no,AV.sl 3 (List.map tokA x.l) (Own.tok 0),AV.ptr 0 0,I6 0,AV.ptr 1 0,AV.ptr 2 0,I6 x.st,AV.fn 85 w36c7,I6 (w36c3 x bs).snd.snd] [AV.sl 1 (bytesL bs) Own.no,AV.sl 3 (List.map tokA y.l) (Own.tok 0),AV.ptr 0 0,I6 0,AV.ptr 1 0,AV.ptr 2 0,I6 y.st,AV.fn 85 w36c7,I6 y.code]∧StIs { boxes:=[some (w36c15 x),some keptClasses,some [I6 (↑x.p:Int)]],live:=[(x.l.length,99),((List.take 32 x.b).length,86)] } (w36c2 y)∧Inv36b bs y∧(2:Nat) * (bs.length - y.p) < (2:Nat) * (bs.length - x.p) + (1:Nat))∧(((w36c3 x bs).fst == (-1:Int)) = false→(((w36c3 x bs).snd.snd != (0:Int)) = true→(w36c11 x)∧∃ (y:X36),ValsAre (w36c10 bs x) (w36c1 bs y)∧StIs { boxes:=[some [AV.sl 2 (if (w36c6 x).length < (32:Nat) then List.map pbX (List.take 32 x.b) ++ [AV.agg [I6 (↑x.p:Int),I6 (w36c3 x bs).snd.snd]] else List.map pbX (List.take 32 x.b)) (Own.tok 1)],some keptClasses,some [I6 (w36c13 x bs)]],live:=[(x.l.length,99),(if (w36c6 x).length < (32:Nat) then (List.take 32 x.b).length + (1:Nat) else (List.take 32 x.b).length,86)] } (w36c2 y)∧Inv36 bs y∧(2:Nat) * (bs.length - y.p) + (1:Nat) < (2:Nat) * (bs.length - x.p) + (1:Nat))∧(((w36c3 x bs).snd.snd != (0:Int)) = false→(((w36c3 x bs).fst == (4:Int)) = true→(0:Int)≤IntKind.i64.wrap ((↑x.p:Int) + (1:Int))∧(0:Int)≤IntKind.i64.wrap ((↑x.p:Int) + (↑(w36c3 x bs).snd.fst:Int) - (1:Int))∧((w36c14 x).toNat≤(w36c12 x bs).toNat∧(w36c12 x bs).toNat≤(bytesL bs).length)∧((1:Nat) = (1:Nat)∨bytesL bs = [])∧((1:Nat) = (1:Nat)∨List.drop (w36c14 x).toNat (List.take (w36c12 x bs).toNat (bytesL bs)) = [])∧∃ (l:List UInt8),List.mapM byteOf (List.drop (w36c14 x).toNat (List.take (w36c12 x bs).toNat (bytesL bs))) = some l∧((3:Nat) = (3:Nat)∨List.map tokA x.l = [])∧((List.map tokA x.l).length + (1:Nat)) * (33:Nat)≤(70368744177664:Nat)∧x.l.length = (List.map tokA x.l).length∧∃ (y:X36),ValsAre (w36c8 bs x l) (w36c1 bs y)∧StIs (w36c17 x bs) (w36c2 y)∧Inv36 bs y∧(2:Nat) * (bs.length - y.p) + (1:Nat) < (2:Nat) * (bs.length - x.p) + (1:Nat))∧(((w36c3 x bs).fst == (4:Int)) = false→(((w36c3 x bs).fst != (0:Int)) = true→(0:Int)≤(↑x.p:Int)∧(0:Int)≤(↑x.p:Int) + (↑(w36c3 x bs).snd.fst:Int)∧((↑x.p:Int).toNat≤(w36c13 x bs).toNat∧(w36c13 x bs).toNat≤(bytesL bs).length)∧((1:Nat) = (1:Nat)∨bytesL bs = [])∧((1:Nat) = (1:Nat)∨List.drop (↑x.p:Int).toNat (List.take (w36c13 x bs).toNat (bytesL bs)) = [])∧∃ (l:List UInt8),List.mapM byteOf (List.drop (↑x.p:Int).toNat (List.take (w36c13 x bs).toNat (bytesL bs))) = some l∧((3:Nat) = (3:Nat)∨List.map tokA x.l = [])∧((List.map tokA x.l).length + (1:Nat)) * (33:Nat)≤(70368744177664:Nat)∧x.l.length = (List.map tokA x.l).length∧∃ (y:X36),ValsAre (w36c8 bs x l) (w36c1 bs y)∧StIs (w36c17 x bs) (w36c2 y)∧Inv36 bs y∧(2:Nat) * (bs.length - y.p) + (1:Nat) < (2:Nat) * (bs.length - x.p) + (1:Nat))∧(((w36c3 x bs).fst != (0:Int)) = false→∃ (y:X36),ValsAre (w36c10 bs x) (w36c1 bs y)∧StIs { boxes:=(w36c9 x bs),live:=[(x.l.length,99),((List.take 32 x.b).length,86)] } (w36c2 y)∧Inv36 bs y∧(2:Nat) * (bs.length - y.p) + (1:Nat) < (2:Nat) * (bs.length - x.p) + (1:Nat)))))))∧(∀ (x:X36),Inv36b bs x→((x.st != IntKind.i64.wrap ((↑x.p:Int) - (1:Int))) = true→(w36c11 x)∧∃ (y:X36),ValsAre (w36c4 bs x) (w36c1 bs y)∧StIs (w36c5 x) (w36c2 y)∧Inv36 bs y∧(2:Nat) * (bs.length - y.p) + (1:Nat) < (2:Nat) * (bs.length - x.p))∧((x.st != IntKind.i64.wrap ((↑x.p:Int) - (1:Int))) = false→(((↑x.p:Int) == (0:Int)) = true→(w36c11 x)∧∃ (y:X36),ValsAre (w36c4 bs x) (w36c1 bs y)∧StIs (w36c5 x) (w36c2 y)∧Inv36 bs y∧(2:Nat) * (bs.length - y.p) + (1:Nat) < (2:Nat) * (bs.length - x.p))∧(((↑x.p:Int) == (0:Int)) = false→∃ (y:X36),ValsAre (w36c4 bs x) (w36c1 bs y)∧StIs { boxes:=[some (w36c15 x),some keptClasses,some [I6 (w36c14 x)]],live:=[(x.l.length,99),((List.take 32 x.b).length,86)] } (w36c2 y)∧Inv36 bs y∧(2:Nat) * (bs.length - y.p) + (1:Nat) < (2:Nat) * (bs.length - x.p))))∧True):=by kernel_rfl
end Go.Abs.Lx
namespace Go.Abs.Lx
open Go.Proofs L8
theorem take32 {α:Type} (l:List α) (e:α):(l ++ [e]).take 32 = if (l.take 32).length < 32 then l.take 32 ++ [e] else l.take 32:=by
 rw [List.length_take]
 by_cases h:l.length < 32
 ·rw [if_pos (by omega),List.take_of_length_le (l:=l) (by omega),List.take_of_length_le (by simp; omega)]
 ·rw [if_neg (by omega),List.take_append_of_le_length (by omega)]
def nextX (bs:List UInt8) (x:X36):X36:=⟨x.l ++ tkOf (bs.drop x.p) x.p,x.b ++ pbOf (bs.drop x.p) x.p x.adj,x.p + (piece (bs.drop x.p)).2.1,false,x.st,0⟩
def oddX (bs:List UInt8) (x:X36):X36:=⟨x.l,x.b ++ pbOf (bs.drop x.p) x.p x.adj,x.p + 1,true,x.p,0⟩
theorem drop_ne {bs:List UInt8} {p:Nat} (h:p < bs.length):bs.drop p ≠ []:=by
 intro e
 have:=congrArg List.length e
 simp at this
 omega
theorem piece_pos' {l:List UInt8} (h:l ≠ []):1≤(piece l).2.1:=by
 cases l with
 | nil=>exact absurd rfl h
 | cons c t=>exact piece_pos c t
theorem next_le {bs:List UInt8} {x:X36} (hp:x.p < bs.length):x.p + (piece (bs.drop x.p)).2.1≤bs.length∧1≤(piece (bs.drop x.p)).2.1:=by
 have h1:=piece_le (bs.drop x.p)
 have h2:=piece_pos' (drop_ne hp)
 rw [List.length_drop] at h1
 omega
theorem inv_next {bs:List UInt8} {x:X36} (h:Inv36 bs x) (hp:x.p < bs.length) (hk:(piece (bs.drop x.p)).1 ≠ -1):Inv36 bs (nextX bs x):=by
 obtain ⟨h01,h02,h1,h2,h3,h4,h5⟩:=h
 obtain ⟨k1,k2⟩:=next_le hp
 have hs:=scan_step (drop_ne hp) x.p x.adj
 have ha:adjOf (bs.drop x.p) = false:=by simp [adjOf,hk]
 rw [List.drop_drop,ha] at hs
 refine ⟨h01,?_,k1,?_,?_,?_,?_⟩
 ·simp only [nextX,List.length_append]
  have:(tkOf (bs.drop x.p) x.p).length≤1:=by unfold tkOf; split <;> simp
  omega
 ·rw [← h2,hs]; simp only [nextX,List.append_assoc]
 ·rw [← h3,hs]; simp only [nextX,List.append_assoc]
 ·simp only [nextX]; constructor
  ·intro h; cases h
  ·rintro ⟨h,_⟩; omega
 ·simp only [nextX]; omega
theorem piece_un {c:UInt8} {t:List UInt8} (h:(piece (c :: t)).1 = -1):(piece (c :: t)).2.1 = 1∧(piece (c :: t)).2.2 = 80:=by
  simp only [piece] at h ⊢
  repeat' split at h
  all_goals first
    | (exfalso; revert h; simp; done)
    | (simp_all; done)
    | (rename_i h1 h2 h3 h4 h5 h6 h7
       rw [if_neg h1,if_neg h2,if_neg h3,if_neg h4,if_neg h5,if_neg h6,if_neg h7]
       exact ⟨rfl,rfl⟩)
theorem tkOf_un {l:List UInt8} {a:Nat} (h:(piece l).1 = -1):tkOf l a = []:=by simp [tkOf,h]
theorem inv_odd {bs:List UInt8} {x:X36} (h:Inv36 bs x) (hp:x.p < bs.length) (hk:(piece (bs.drop x.p)).1 = -1):Inv36 bs (oddX bs x):=by
 obtain ⟨h01,h02,h1,h2,h3,h4,h5⟩:=h
 obtain ⟨k1,k2⟩:=next_le hp
 have hs:=scan_step (drop_ne hp) x.p x.adj
 have ha:adjOf (bs.drop x.p) = true:=by simp [adjOf,hk]
 have hone:(piece (bs.drop x.p)).2.1 = 1:=by
  cases hd:bs.drop x.p with
  | nil=>exact absurd hd (drop_ne hp)
  | cons c t=>rw [hd] at hk; exact (piece_un hk).1
 rw [List.drop_drop,ha,hone,tkOf_un hk] at hs
 refine ⟨h01,by simp only [oddX]; omega,by simp only [oddX]; omega,?_,?_,?_,?_⟩
 ·rw [← h2,hs]; simp only [oddX,List.nil_append]
 ·rw [← h3,hs]; simp only [oddX,List.append_assoc]
 ·simp [oddX]
 ·simp only [oddX]; omega
theorem byteOf_mk (c:UInt8):byteOf (.int .u8 c.toNat) = some c:=by
 have h:=c.toNat_lt
 simp [byteOf]
theorem mapByte:∀ (l:List UInt8),(bytesL l).mapM byteOf = some l
 | []=>rfl
 | c :: l=>by
  have ih:=mapByte l
  simp only [bytesL,List.map_cons] at ih ⊢
  rw [List.mapM_cons,byteOf_mk,ih]
  rfl
theorem drop_take_bytes (bs:List UInt8) (i j:Nat):((bytesL bs).take j).drop i = bytesL ((bs.take j).drop i):=by
 simp [bytesL,List.map_take,List.map_drop]
theorem txt4 {bs:List UInt8} {p:Nat} (h:(piece (bs.drop p)).1 = 4):(bs.take (p + (piece (bs.drop p)).2.1 - 1)).drop (p + 1) = txtOf (bs.drop p):=by
 rw [txtOf,if_pos h,List.drop_take]
 rw [show p + (piece (bs.drop p)).2.1 - 1 - (p + 1) = (piece (bs.drop p)).2.1 - 2 by omega]
 generalize (piece (bs.drop p)).2.1 = n
 rw [List.drop_take,List.drop_drop,List.take_take]
 congr 1
 omega
theorem txtn {bs:List UInt8} {p:Nat} (h:(piece (bs.drop p)).1 ≠ 4):(bs.take (p + (piece (bs.drop p)).2.1)).drop p = txtOf (bs.drop p):=by
 rw [txtOf,if_neg h,List.drop_take]
 congr 1
 omega
theorem piece_four {l:List UInt8} (h:(piece l).1 = 4):2≤(piece l).2.1:=by
 cases l with
 | nil=>simp [piece] at h
 | cons c t =>
  simp only [piece] at h ⊢
  repeat' split at h
  all_goals first | (exfalso; revert h; simp; done) | (simp_all; done)
def r12 (bs:List UInt8):AV × List (Nat × TypeId):=(if bs.length≤16384 then .tup [tkA (toksX bs) .no,badA (probsL bs) .no,.int .i64 0] else .tup [.sl 3 [] .no,.sl 2 [] .no,.int .i64 2],[])
theorem p36 (m:Int) (bs:List UInt8):LaxOk PQ (GQ m) XL (tbl t12) (itbl [(85,s85),(86,s86)]) (a36 bs) [] 36 [bytesA bs] (r12 bs):=by
 constructor
 unfold r12
 rw [w36]; unfold w36c17 w36c16 w36c12 w36c11 w36c10 w36c9 w36c13 w36c15 w36c8 w36c5 w36c14 w36c6 w36c4 w36c3 w36c2 w36c1 w36c7 I6
 simp only [bytesD_mk,Int.toNat_natCast,List.length_map,valsAre_iff,stIs_iff,retLax_iff,decide_eq_true_eq,decide_eq_false_iff_not,gt_iff_lt,true_or,true_and,and_true,List.cons.injEq,AV.sl.injEq,AV.int.injEq,Option.some.injEq,Prod.mk.injEq,St.mk.injEq,beq_iff_eq,bne_iff_ne,beq_eq_false_iff_ne,bne_eq_false_iff_eq,ne_eq]
 have lx:∀ {A B C D},A = C→B = D→Lax2 (AV.tup [AV.sl 3 A (.tok 0),AV.sl 2 B (.tok 1),AV.int .i64 0]) (AV.tup [AV.sl 3 C .no,AV.sl 2 D .no,AV.int .i64 0]):=fun h1 h2=>by
  subst h1; subst h2
  simp [Lax2,all2,Lax1,Lax0]
 refine ⟨⟨fun h=>?_,fun h=>⟨⟨rfl⟩,⟨[],[],0,false,-1,0⟩,⟨rfl,rfl⟩,⟨⟨rfl,rfl⟩,rfl,rfl⟩,?_⟩⟩,fun x hx=>⟨fun h=>?_,fun h=>⟨⟨⟨rfl,rfl⟩,bs,rfl,?_,?_,?_⟩,fun hk=>?_,fun hk=>⟨fun he=>?_,fun he=>⟨fun h4=>?_,fun h4=>⟨fun h0=>?_,fun h0=>?_⟩⟩⟩⟩⟩,fun x hx=>?_⟩
 ·rw [if_neg (by omega)]
  exact ⟨by simp [Lax2,all2,Lax1,Lax0],rfl⟩
 ·refine ⟨by omega,Nat.le_refl _,Nat.zero_le _,rfl,rfl,by simp,by simp⟩
 ·obtain ⟨h01,h02,h1,h2,h3,h4,h5⟩:=hx
  have hp:x.p = bs.length:=by omega
  rw [if_pos h01]
  have hd:bs.drop x.p = []:=by rw [hp]; simp
  rw [hd,scan_nil] at h2 h3
  simp only [List.append_nil] at h2 h3
  refine ⟨by omega,lx ?_ ?_,rfl⟩
  ·simp only [toksX,List.map_append,List.map_cons,List.map_nil,← h2,← hp]; rfl
  ·simp only [probsL,← h3]
 ·have:=hx.small; omega
 ·omega
 ·have:=hx.p; omega
 ·have hp:x.p < bs.length:=by have:=hx.p; omega
  have hu:(piece (bs.drop x.p)).2.2 = 80:=by
   cases hd:bs.drop x.p with
   | nil=>exact absurd hd (drop_ne hp)
   | cons c t=>rw [hd] at hk; exact (piece_un hk).2
  exact ⟨{ x with code:=80 },⟨rfl,rfl,hu⟩,⟨⟨rfl,rfl⟩,rfl,rfl⟩,⟨⟨hx.small,hx.len,hx.p,hx.l,hx.b,hx.st,hx.lt⟩,hp,hk,rfl⟩,by simp only; omega⟩
 ·have hp:x.p < bs.length:=by have:=hx.p; omega
  have hn:=next_le hp
  have hpb:pbOf (bs.drop x.p) x.p x.adj = [⟨x.p,(piece (bs.drop x.p)).2.2⟩]:=by simp only [pbOf,if_neg hk,if_neg he]
  have htk:tkOf (bs.drop x.p) x.p = []:=by simp [tkOf,he]
  refine ⟨by simp; omega,nextX bs x,⟨by simp only [nextX,htk,List.append_nil],rfl⟩,⟨⟨?_,by simp only [nextX]; omega⟩,by simp only [nextX,htk,List.append_nil],?_⟩,inv_next hx hp hk,by simp only [nextX]; omega⟩
  ·simp only [nextX,hpb,take32]
   split
   ·simp only [List.map_append,List.map_cons,List.map_nil]; rfl
   ·rfl
  ·simp only [nextX,hpb,take32]
   split <;> simp
 ·have hp:x.p < bs.length:=by have:=hx.p; omega
  have hn:=next_le hp
  have h2:=piece_four h4
  have hpb:pbOf (bs.drop x.p) x.p x.adj = []:=by simp only [pbOf,if_neg hk,if_pos he]
  have htk:tkOf (bs.drop x.p) x.p = [⟨(piece (bs.drop x.p)).1,txtOf (bs.drop x.p),x.p⟩]:=by simp only [tkOf]; rw [if_pos ⟨hk,he,by omega⟩]
  have hsm:=hx.small
  have hln:=hx.len
  rw [wrap64_in (n:=(x.p:Int) + 1) (by omega) (by omega),wrap64_in (n:=(x.p:Int) + (piece (bs.drop x.p)).2.1 - 1) (by omega) (by omega)]
  rw [show ((x.p:Int) + 1).toNat = x.p + 1 by omega,show ((x.p:Int) + (piece (bs.drop x.p)).2.1 - 1).toNat = x.p + (piece (bs.drop x.p)).2.1 - 1 by omega,drop_take_bytes,txt4 h4,mapByte]
  refine ⟨by omega,by omega,by omega,_,rfl,by omega,nextX bs x,⟨?_,rfl⟩,⟨⟨by simp only [nextX,hpb,List.append_nil],by simp only [nextX]; omega⟩,by simp only [nextX,htk,List.length_append]; rfl,by simp only [nextX,hpb,List.append_nil]⟩,inv_next hx hp hk,by simp only [nextX]; omega⟩
  simp only [nextX,htk,List.map_append,List.map_cons,List.map_nil]
  rfl
 ·have hp:x.p < bs.length:=by have:=hx.p; omega
  have hn:=next_le hp
  have hpb:pbOf (bs.drop x.p) x.p x.adj = []:=by simp only [pbOf,if_neg hk,if_pos he]
  have htk:tkOf (bs.drop x.p) x.p = [⟨(piece (bs.drop x.p)).1,txtOf (bs.drop x.p),x.p⟩]:=by simp only [tkOf]; rw [if_pos ⟨hk,he,h0⟩]
  have hsm:=hx.small
  have hln:=hx.len
  rw [show ((x.p:Int) + (piece (bs.drop x.p)).2.1).toNat = x.p + (piece (bs.drop x.p)).2.1 by omega,drop_take_bytes,txtn h4,mapByte]
  refine ⟨by omega,by omega,by omega,_,rfl,by omega,nextX bs x,⟨?_,rfl⟩,⟨⟨by simp only [nextX,hpb,List.append_nil],by simp only [nextX]; omega⟩,by simp only [nextX,htk,List.length_append]; rfl,by simp only [nextX,hpb,List.append_nil]⟩,inv_next hx hp hk,by simp only [nextX]; omega⟩
  simp only [nextX,htk,List.map_append,List.map_cons,List.map_nil]
  rfl
 ·have hp:x.p < bs.length:=by have:=hx.p; omega
  have hn:=next_le hp
  have hpb:pbOf (bs.drop x.p) x.p x.adj = []:=by simp only [pbOf,if_neg hk,if_pos he]
  have htk:tkOf (bs.drop x.p) x.p = []:=by simp [tkOf,h0]
  exact ⟨nextX bs x,⟨by simp only [nextX,htk,List.append_nil],rfl⟩,⟨⟨by simp only [nextX,hpb,List.append_nil],by simp only [nextX]; omega⟩,by simp only [nextX,htk,List.append_nil],by simp only [nextX,hpb,List.append_nil]⟩,inv_next hx hp hk,by simp only [nextX]; omega⟩
 ·obtain ⟨hi,hp,hun,hcode⟩:=hx
  have hsm:=hi.small
  have hst:=hi.st
  rw [wrap64_in (n:=(x.p:Int) - 1) (by omega) (by omega),wrap64_in (n:=(x.p:Int) + 1) (by omega) (by omega)]
  have rep:x.adj = false→((if (List.take 32 x.b).length < 32 then List.map pbX (List.take 32 x.b) ++ [AV.agg [AV.int .i64 x.p,AV.int .i64 x.code]] else List.map pbX (List.take 32 x.b)) = List.map pbX (List.take 32 (oddX bs x).b)∧(if (List.take 32 x.b).length < 32 then (List.take 32 x.b).length + 1 else (List.take 32 x.b).length) = (List.take 32 (oddX bs x).b).length):=fun ha=>by
   have hpb:pbOf (bs.drop x.p) x.p x.adj = [⟨x.p,80⟩]:=by simp only [pbOf,if_pos hun,ha]; rfl
   simp only [oddX,hpb,take32,hcode]
   constructor
   ·split
    ·simp only [List.map_append,List.map_cons,List.map_nil]; rfl
    ·rfl
   ·split <;> simp
  refine ⟨fun h=>?_,fun h=>⟨fun h0=>?_,fun h0=>?_⟩⟩
  ·have ha:x.adj = false:=by
    cases ha:x.adj with
    | false=>rfl
    | true=>exact absurd (hst.1 ha).1 (by omega)
   exact ⟨by simp; omega,oddX bs x,⟨rfl,rfl⟩,⟨⟨(rep ha).1,by simp only [oddX]; omega⟩,rfl,(rep ha).2⟩,inv_odd hi hp hun,by simp only [oddX]; omega⟩
  ·have ha:x.adj = false:=by
    cases ha:x.adj with
    | false=>rfl
    | true=>exact absurd (hst.1 ha).2 (by omega)
   exact ⟨by simp; omega,oddX bs x,⟨rfl,rfl⟩,⟨⟨(rep ha).1,by simp only [oddX]; omega⟩,rfl,(rep ha).2⟩,inv_odd hi hp hun,by simp only [oddX]; omega⟩
  ·have ha:x.adj = true:=hst.2 ⟨by omega,by omega⟩
   have hpb:pbOf (bs.drop x.p) x.p x.adj = []:=by simp only [pbOf,if_pos hun,ha]; rfl
   exact ⟨oddX bs x,⟨rfl,rfl⟩,⟨⟨by simp only [oddX,hpb,List.append_nil],by simp only [oddX]; omega⟩,rfl,by simp only [oddX,hpb,List.append_nil]⟩,inv_odd hi hp hun,by simp only [oddX]; omega⟩
end Go.Abs.Lx
