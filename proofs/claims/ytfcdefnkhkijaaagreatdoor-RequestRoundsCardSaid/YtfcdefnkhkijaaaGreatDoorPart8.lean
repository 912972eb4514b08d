/- Own texts, part 8. -/
import Derived.Test.YtfcdefnkhkijaaaGreatDoorPart7
import Derived.Test.YtfcdefnkhkijaaaGreatDoorPart6
import Derived.Test.YtfcdefnkhkijaaaGreatDoorPart2
import Derived.Test.YtfcdefnkhkijaaaGreatDoorPart4
import Derived.Deep.LoopGhost
import Derived.WalkKit
import Derived.Lib.Walk
import Derived.Lib.Hide
import Derived.Lib.SliceRun
import Derived.Test.YtfcdefnkhkijaaaGreatDoorRows
import Derived.LaidLaws
import Derived.Lay
import Derived.Shelf.Lay
import Derived.Lib.LaidTab
import Derived.Lib.LaidU8

namespace Go.Abs
open Go.Proofs Lx.L8
def ktX (t:TkX):Int × List UInt8:=(t.kind,t.text)
def Toks (l:List UInt8) (ks:List (Int × List UInt8)):Prop:=∀ a,(scan l a false).1.map ktX = ks∧(scan l a false).2 = []
theorem toks_nil:Toks [] []:=fun _=>⟨rfl,rfl⟩
theorem toks_skip {c:UInt8} {l:List UInt8} {ks:List (Int × List UInt8)} (hp:piece (c :: l) = (0,1,0)) (h:Toks l ks):Toks (c :: l) ks:=fun a=>by
 have e1:tkOf (c :: l) a = []:=by simp [tkOf,hp]
 have e2:pbOf (c :: l) a false = []:=by simp [pbOf,hp]
 have e3:adjOf (c :: l) = false:=by simp [adjOf,hp]
 rw [scan_step (by simp),e1,e2,e3,hp]
 exact h _
theorem toks_piece {w l:List UInt8} {k:Int} {s:List UInt8} {ks:List (Int × List UInt8)} (hw:w ≠ []) (hk:k ≠ 0∧k ≠ -1) (hp:piece (w ++ l) = (k,w.length,0)) (hs:txtOf (w ++ l) = s) (h:Toks l ks):Toks (w ++ l) ((k,s) :: ks):=fun a=>by
 have e1:tkOf (w ++ l) a = [⟨k,s,a⟩]:=by simp [tkOf,hp,hk,hs]
 have e2:pbOf (w ++ l) a false = []:=by simp [pbOf,hp,hk]
 have e3:adjOf (w ++ l) = false:=by simp [adjOf,hp,hk]
 rw [scan_step (by simp [hw]),e1,e2,e3,hp]
 simp only [List.drop_left]
 obtain ⟨h1,h2⟩:=h (a + w.length)
 refine ⟨?_,h2⟩
 rw [List.map_append,h1]
 rfl
theorem toks_blank {l:List UInt8} {ks:List (Int × List UInt8)} (h:Toks l ks):Toks (32 :: l) ks:=toks_skip (by simp [piece,blankB]) h
theorem toks_comma {l:List UInt8} {ks:List (Int × List UInt8)} (h:Toks l ks):Toks (44 :: l) ((5,[44]) :: ks):=by
 have hp:piece ([44] ++ l) = (5,1,0):=by
  rw [List.singleton_append]
  simp only [piece]
  rfl
 refine toks_piece (w:=[44]) (by simp) (by decide) hp ?_ h
 unfold txtOf
 rw [hp]
 rfl
theorem tw_upto {p:UInt8→Bool}:∀ {w l:List UInt8},(∀ c ∈ w,p c = true)→(∀ c,l.head? = some c→p c = false)→(w ++ l).takeWhile p = w
 | [],[],_,_=>rfl
 | [],d :: l,_,h=>by rw [List.nil_append,List.takeWhile_cons,if_neg (by rw [h d rfl]; simp)]
 | c :: w,l,h1,h2=>by
  rw [List.cons_append,List.takeWhile_cons,if_pos (h1 c List.mem_cons_self),tw_upto (fun x hx=>h1 x (List.mem_cons_of_mem _ hx)) h2]
theorem tw_mem {p:UInt8→Bool} {l:List UInt8} (h:l.takeWhile p = l):∀ c ∈ l,p c = true:=fun c hc=>by
 have:=tw_all p l
 rw [h,List.all_eq_true] at this
 exact this c hc
theorem toks_word {w l:List UInt8} {ks:List (Int × List UInt8)} (hw:w ≠ []) (hl:w.length≤24) (hww:wl w = w.length) (hn:∀ c,l.head? = some c→innerB c = false) (h:Toks l ks):Toks (w ++ l) ((1,w) :: ks):=by
 cases w with
 | nil=>exact absurd rfl hw
 | cons c t =>
  have hc:letterB c = true:=by
   cases hx:letterB c with
   | true=>rfl
   | false=>simp [wl,hx] at hww
  rw [wl,if_pos hc] at hww
  have ht:t.takeWhile innerB = t:=(List.takeWhile_prefix innerB).eq_of_length (by simp at hww; omega)
  have htw:(t ++ l).takeWhile innerB = t:=tw_upto (tw_mem ht) hn
  have hb:blankB c = false∧(c == 35) = false:=by
   unfold letterB at hc
   have hc':=of_decide_eq_true hc
   constructor
   ·simp only [blankB,Bool.or_eq_false_iff,beq_eq_false_iff_ne,ne_eq]
    refine ⟨⟨⟨?_,?_⟩,?_⟩,?_⟩ <;> (rintro rfl; revert hc'; decide)
   ·simp only [beq_eq_false_iff_ne,ne_eq]
    rintro rfl; revert hc'; decide
  have hp:piece ((c :: t) ++ l) = (1,(c :: t).length,0):=by
   rw [List.cons_append]
   simp only [piece]
   rw [if_neg (by rw [hb.1]; simp),if_neg (by rw [hb.2]; simp),if_pos (show Lx.letterB c = true from hc)]
   have:List.takeWhile Lx.innerB (t ++ l) = t:=htw
   rw [this,if_neg (by simp at hl; omega)]
   simp [Nat.add_comm]
  refine toks_piece (by simp) (by decide) hp ?_ h
  simp only [txtOf,hp]
  rw [if_neg (by decide),List.take_left]
theorem toks_name {w l:List UInt8} {ks:List (Int × List UInt8)} (hw:nameR w = true) (hn:∀ c,l.head? = some c→innerB c = false) (h:Toks l ks):Toks (w ++ l) ((1,w) :: ks):=by
 simp only [nameR,Bool.and_eq_true,decide_eq_true_eq] at hw
 exact toks_word hw.1.1.1 hw.1.1.2 hw.1.2 hn h
theorem toks_int {w l:List UInt8} {ks:List (Int × List UInt8)} (hw:w ≠ []) (hd:∀ c ∈ w,digitB c = true) (hv:valX w≤1152921504606846976) (hn:∀ c,l.head? = some c→digitB c = false∧c ≠ 46) (h:Toks l ks):Toks (w ++ l) ((2,w) :: ks):=by
 cases w with
 | nil=>exact absurd rfl hw
 | cons c t =>
  have hdig:Lx.digitB = digitB:=funext dig_eq
  have hc:=hd c List.mem_cons_self
  have htw:(t ++ l).takeWhile digitB = t:=tw_upto (fun x hx=>hd x (List.mem_cons_of_mem _ hx)) fun x hx=>(hn x hx).1
  have hb:blankB c = false∧(c == 35) = false∧letterB c = false:=by
   have hc':=digitB_iff.1 hc
   refine ⟨?_,?_,?_⟩
   ·simp only [blankB,Bool.or_eq_false_iff,beq_eq_false_iff_ne,ne_eq]
    refine ⟨⟨⟨?_,?_⟩,?_⟩,?_⟩ <;> (rintro rfl; revert hc'; decide)
   ·simp only [beq_eq_false_iff_ne,ne_eq]
    rintro rfl; revert hc'; decide
   ·unfold letterB
    exact decide_eq_false (by omega)
  have hp:piece ((c :: t) ++ l) = (2,(c :: t).length,0):=by
   rw [List.cons_append]
   simp only [piece]
   rw [if_neg (by rw [hb.1]; simp),if_neg (by rw [hb.2.1]; simp),if_neg (by rw [show Lx.letterB c = letterB c from rfl,hb.2.2]; simp),if_pos (by rw [hdig]; exact hc),hdig,htw]
   have e:(c :: (t ++ l)).drop (1 + t.length) = l:=by
    rw [Nat.add_comm,List.drop_succ_cons,List.drop_left]
   have e2:(c :: (t ++ l)).take (1 + t.length) = c :: t:=by
    rw [Nat.add_comm,List.take_succ_cons,List.take_left]
   rw [e,e2]
   have hi:intErr (c :: t) = 0:=by
    unfold intErr
    rw [if_neg]
    have:(2:Nat) ^ 60 = 1152921504606846976:=by decide
    omega
   split
   ·exact absurd rfl (hn 46 rfl).2
   ·rw [hi]; simp [Nat.add_comm]
  refine toks_piece (by simp) (by decide) hp ?_ h
  simp only [txtOf,hp]
  rw [if_neg (by decide),List.take_left]
theorem toks_text {s l:List UInt8} {ks:List (Int × List UInt8)} (hs:s.all keyC = true) (hl:s.length≤64) (h:Toks l ks):Toks ([34] ++ s ++ [34] ++ l) ((4,s) :: ks):=by
 rw [List.all_eq_true] at hs
 have hin:∀ c ∈ s,33≤c.toNat∧c.toNat≤126∧c ≠ 34∧c ≠ 92:=fun c hc=>by
  have:=hs c hc
  simp only [keyC,Bool.and_eq_true,decide_eq_true_eq,Bool.not_eq_true',beq_eq_false_iff_ne,ne_eq] at this
  exact ⟨this.1.1.1,this.1.1.2,fun e=>this.1.2 (by rw [e]; rfl),fun e=>this.2 (by rw [e]; rfl)⟩
 have htw:(s ++ 34 :: l).takeWhile lineB = s:=tw_upto (fun c hc=>by
  obtain ⟨h1,h2,h3,h4⟩:=hin c hc
  simp only [lineB,Bool.and_eq_true,bne_iff_ne,ne_eq]
  exact ⟨h3,fun e=>by rw [e] at h1; revert h1; decide⟩) fun c hc=>by
   simp only [List.head?_cons,Option.some.injEq] at hc
   rw [← hc]; rfl
 have hq:[34] ++ s ++ [34] ++ l = 34 :: (s ++ 34 :: l):=by simp
 have hte:txtErr s = 0:=by
  unfold txtErr
  rw [if_neg (by omega),if_neg]
  rw [List.any_eq_true]
  rintro ⟨c,hc,hb⟩
  obtain ⟨h1,h2,h3,h4⟩:=hin c hc
  simp only [badB,Bool.or_eq_true,decide_eq_true_eq,beq_iff_eq] at hb
  rcases hb with (hb | hb) | hb
  ·omega
  ·omega
  ·exact h4 hb
 have hp:piece ([34] ++ s ++ [34] ++ l) = (4,([34] ++ s ++ [34]).length,0):=by
  rw [hq]
  simp only [piece]
  rw [if_neg (by decide),if_neg (by decide),if_neg (by decide),if_neg (by decide),if_pos (by decide),htw,List.drop_left]
  simp only [hte]
  simp
 refine toks_piece (w:=[34] ++ s ++ [34]) (by simp) (by decide) hp ?_ h
 simp only [txtOf,hp]
 rw [if_pos trivial,List.take_left]
 simp
/-! decimals -/
theorem dd_digits (n:Nat):(∀ c ∈ Lib.decDigits n,digitB c = true)∧valX (Lib.decDigits n) = n∧Lib.decDigits n ≠ []:=by
 induction n using Nat.strongRecOn with
 | _ n ih =>
  have hd:n % 10 < 10:=Nat.mod_lt _ (by omega)
  have hb:(UInt8.ofNat (48 + n % 10)).toNat = 48 + n % 10:=by
   rw [UInt8.toNat_ofNat']; omega
  have hq:digitB (UInt8.ofNat (48 + n % 10)) = true:=digitB_iff.2 (by rw [hb]; omega)
  rw [preD_step]
  refine ⟨fun c hc=>?_,?_,by simp⟩
  ·rcases List.mem_append.1 hc with hc | hc
   ·unfold preD at hc
    split at hc
    ·cases hc
    ·exact (ih (n / 10) (by omega)).1 c hc
   ·rw [List.mem_singleton.1 hc]; exact hq
  ·unfold valX
   rw [List.foldl_append]
   simp only [List.foldl_cons,List.foldl_nil,hb]
   unfold preD
   split
   ·simp only [List.foldl_nil]; omega
   ·have:=(ih (n / 10) (by omega)).2.1
    unfold valX at this
    rw [this]; omega
theorem itoa_tick {n:Int} (h:tickB n = true):∃ k:Nat,n = k∧k≤1099511627776∧Lib.itoa n = Lib.decDigits k:=by
 obtain ⟨h0,h1⟩:=tick_iff.1 h
 refine ⟨n.toNat,by omega,by omega,?_⟩
 have:=Lib.itoa_nonneg n.toNat
 rwa [Int.toNat_of_nonneg h0] at this
theorem toks_num {n:Int} {l:List UInt8} {ks:List (Int × List UInt8)} (ht:tickB n = true) (hn:∀ c,l.head? = some c→digitB c = false∧c ≠ 46) (h:Toks l ks):Toks (Lib.itoa n ++ l) ((2,Lib.itoa n) :: ks):=by
 obtain ⟨k,rfl,hk,e⟩:=itoa_tick ht
 obtain ⟨d1,d2,d3⟩:=dd_digits k
 rw [e]
 exact toks_int d3 d1 (by rw [d2]; omega) hn h
theorem num_tick {n:Int} (ht:tickB n = true):numV (Lib.itoa n) = n:=by
 obtain ⟨k,rfl,hk,e⟩:=itoa_tick ht
 have:valL (Lib.decDigits k) = k:=(dd_digits k).2.1
 unfold numV
 rw [e,this,if_pos (by omega)]
/-! the tokens of a request's text -/
abbrev KT:=Int × List UInt8
def ktLb (x:Lb):List KT:=[(4,x.key),(2,Lib.itoa x.event),(2,Lib.itoa x.know)]
def ktMore (l:List Lb):List KT:=l.flatMap fun x=>(5,[44]) :: ktLb x
def ktTail:List Lb→List KT
 | []=>[]
 | x :: l=>(1,[97,116]) :: (ktLb x ++ ktMore l)
def ktMid (r:Rq):List KT:=(1,[115,101,101,100]) :: (2,Lib.itoa r.seed) :: (1,[107,101,101,112]) :: (2,Lib.itoa r.permille) :: ktTail r.labels
def ktFs:List (List UInt8)→List KT→List KT
 | [],k=>k
 | f :: l,k=>(5,[44]) :: (1,f) :: ktFs l k
def ktHead (fs:List (List UInt8)) (k:List KT):List KT:=match fs with
 | []=>k
 | f :: l=>(1,f) :: ktFs l k
def ktRq (r:Rq):List KT:=(1,[111,102]) :: (1,r.entity) :: (1,[116,97,107,101]) :: ktHead r.feats (ktMid r)
theorem nh_blank {l:List UInt8}:∀ c,(32 :: l).head? = some c→innerB c = false:=fun c hc=>by
 simp only [List.head?_cons,Option.some.injEq] at hc; rw [← hc]; rfl
theorem nd_blank {l:List UInt8}:∀ c,(32 :: l).head? = some c→digitB c = false∧c ≠ 46:=fun c hc=>by
 simp only [List.head?_cons,Option.some.injEq] at hc; rw [← hc]; exact ⟨rfl,by decide⟩
theorem nd_comma {l:List UInt8}:∀ c,(44 :: l).head? = some c→digitB c = false∧c ≠ 46:=fun c hc=>by
 simp only [List.head?_cons,Option.some.injEq] at hc; rw [← hc]; exact ⟨rfl,by decide⟩
theorem nh_comma {l:List UInt8}:∀ c,(44 :: l).head? = some c→innerB c = false:=fun c hc=>by
 simp only [List.head?_cons,Option.some.injEq] at hc; rw [← hc]; rfl
theorem nd_nil:∀ c,([]:List UInt8).head? = some c→digitB c = false∧c ≠ 46:=fun c hc=>by cases hc
theorem toks_lb {x:Lb} {l:List UInt8} {ks:List KT} (hx:lbOk x = true) (hn:∀ c,l.head? = some c→digitB c = false∧c ≠ 46) (h:Toks l ks):Toks (lbT x ++ l) (ktLb x ++ ks):=by
 simp only [lbOk,keyB,Bool.and_eq_true,decide_eq_true_eq] at hx
 have e:lbT x ++ l = [34] ++ x.key ++ [34] ++ (32 :: (Lib.itoa x.event ++ (32 :: (Lib.itoa x.know ++ l)))):=by
  simp [lbT]
 rw [e]
 exact toks_text hx.1.1.2 (by omega) (toks_blank (toks_num hx.1.2 nd_blank (toks_blank (toks_num hx.2 hn h))))
theorem toks_more:∀ {l:List Lb},(∀ x ∈ l,lbOk x = true)→Toks (fmtTail [44,32] l) (ktMore l)
 | [],_=>toks_nil
 | x :: l,h=>by
  have ih:=toks_more (l:=l) fun y hy=>h y (List.mem_cons_of_mem _ hy)
  have e:fmtTail [44,32] (x :: l) = 44 :: 32 :: (lbT x ++ fmtTail [44,32] l):=by simp [fmtTail]
  rw [e]
  refine toks_comma (toks_blank (toks_lb (h x List.mem_cons_self) ?_ ih))
  cases l with
  | nil=>exact nd_nil
  | cons y l=>exact nd_comma
theorem toks_tail {l:List Lb} (h:∀ x ∈ l,lbOk x = true):Toks (fmtTail [32,97,116,32] l) (ktTail l):=by
 cases l with
 | nil=>exact toks_nil
 | cons x l =>
  have ih:=toks_more (l:=l) fun y hy=>h y (List.mem_cons_of_mem _ hy)
  have e:fmtTail [32,97,116,32] (x :: l) = 32 :: ([97,116] ++ 32 :: (lbT x ++ fmtTail [44,32] l)):=by simp [fmtTail]
  rw [e]
  refine toks_blank (toks_word (by simp) (by simp) (by rfl) nh_blank (toks_blank (toks_lb (h x List.mem_cons_self) ?_ ih)))
  cases l with
  | nil=>exact nd_nil
  | cons y l=>exact nd_comma
theorem nd_tail {l:List Lb}:∀ c,(fmtTail [32,97,116,32] l).head? = some c→digitB c = false∧c ≠ 46:=by
 cases l with
 | nil=>exact nd_nil
 | cons x l=>exact nd_blank
theorem toks_mid {r:Rq} (h:formB r = true):Toks (fmtMid r ++ fmtTail [32,97,116,32] r.labels) (ktMid r):=by
 have hl:∀ x ∈ r.labels,lbOk x = true:=by
  simp only [formB,Bool.and_eq_true,List.all_eq_true] at h
  exact h.2
 obtain ⟨_,h1,h2,_⟩:=tickIn h
 have e:fmtMid r ++ fmtTail [32,97,116,32] r.labels = 32 :: ([115,101,101,100] ++ 32 :: (Lib.itoa r.seed ++ 32 :: ([107,101,101,112] ++ 32 :: (Lib.itoa r.permille ++ fmtTail [32,97,116,32] r.labels)))):=by simp [fmtMid]
 rw [e]
 exact toks_blank (toks_word (by simp) (by simp) (by rfl) nh_blank (toks_blank (toks_num h1 nd_blank (toks_blank (toks_word (by simp) (by simp) (by rfl) nh_blank (toks_blank (toks_num h2 nd_tail (toks_tail hl))))))))
theorem toks_fs {k:List UInt8} {ks:List KT} (hk:Toks (32 :: k) ks):∀ {l:List (List UInt8)},(∀ f ∈ l,nameR f = true)→Toks (Lib.joinTail [44,32] l ++ 32 :: k) (ktFs l ks)
 | [],_=>hk
 | f :: l,h=>by
  have ih:=toks_fs hk (l:=l) fun y hy=>h y (List.mem_cons_of_mem _ hy)
  have e:Lib.joinTail [44,32] (f :: l) ++ 32 :: k = 44 :: 32 :: (f ++ (Lib.joinTail [44,32] l ++ 32 :: k)):=by simp [Lib.joinTail]
  rw [e]
  refine toks_comma (toks_blank (toks_name (h f List.mem_cons_self) ?_ ih))
  cases l with
  | nil=>exact nh_blank
  | cons y l=>exact nh_comma
theorem featsOk_names:∀ {l seen:List (List UInt8)},featsOk seen l = true→∀ f ∈ l,nameR f = true
 | [],_,_,f,hf=>by cases hf
 | a :: l,seen,h,f,hf=>by
  simp only [featsOk,Bool.and_eq_true] at h
  rcases List.mem_cons.1 hf with rfl | hf
  ·exact h.1.1
  ·exact featsOk_names h.2 f hf
theorem toks_rq {r:Rq} (h:formB r = true):Toks (fmtL r) (ktRq r):=by
 unfold fmtL
 rw [if_pos h]
 have hm:=toks_mid h
 have h':=h
 simp only [formB,headOk,Bool.and_eq_true,decide_eq_true_eq] at h'
 have hf:=featsOk_names h'.1.2
 have hen:nameR r.entity = true:=h'.1.1.1.1.1.1.1.1
 have hnf:1≤r.feats.length:=h'.1.1.1.1.1.1.1.2
 have e1:fmtMid r ++ fmtTail [32,97,116,32] r.labels = 32 :: ((fmtMid r ++ fmtTail [32,97,116,32] r.labels).drop 1):=rfl
 rw [e1] at hm
 cases hfs:r.feats with
 | nil=>rw [hfs] at hnf; simp at hnf
 | cons f l =>
  rw [hfs] at hf
  have e:fmtHead r ++ fmtMid r ++ fmtTail [32,97,116,32] r.labels = [111,102] ++ 32 :: (r.entity ++ 32 :: ([116,97,107,101] ++ 32 :: (f ++ (Lib.joinTail [44,32] l ++ 32 :: ((fmtMid r ++ fmtTail [32,97,116,32] r.labels).drop 1))))):=by
   rw [← e1]
   simp [fmtHead,hfs,Lib.join_cons]
  rw [e]
  unfold ktRq ktHead
  rw [hfs]
  refine toks_word (by simp) (by simp) (by rfl) nh_blank (toks_blank (toks_name hen nh_blank (toks_blank (toks_word (by simp) (by simp) (by rfl) nh_blank (toks_blank (toks_name (hf f List.mem_cons_self) ?_ (toks_fs hm fun y hy=>hf y (List.mem_cons_of_mem _ hy))))))))
  cases l with
  | nil=>exact nh_blank
  | cons y l=>exact nh_comma
/-! the parser at these tokens -/
def kt (t:Tk):KT:=(t.k,t.s)
theorem kt_cons {l:List Tk} {k:Int} {s:List UInt8} {ks:List KT} (h:l.map kt = (k,s) :: ks):∃ t l',l = t :: l'∧t.k = k∧t.s = s∧l'.map kt = ks:=by
 obtain ⟨t,l',rfl,h1,h2⟩:=List.map_eq_cons_iff.1 h
 injection h1 with h1 h3
 exact ⟨t,l',rfl,h1,h3,h2⟩
theorem nx_kt {k:Int} {acc:List UInt8→Bool} {l:List Tk} {s:List UInt8} {ks:List KT} (h:l.map kt = (k,s) :: ks) (ha:acc s = true) (h6:k ≠ 6):∃ l',nx k acc l = .ok (s,l')∧l'.map kt = ks:=by
 obtain ⟨t,l',rfl,h1,h2,h3⟩:=kt_cons h
 refine ⟨l',?_,h3⟩
 rw [nx,if_pos ⟨h1,by rw [h2]; exact ha⟩,if_neg h6,h2]
theorem num_kt {l:List Tk} {n:Int} {ks:List KT} (h:l.map kt = (2,Lib.itoa n) :: ks) (ht:tickB n = true):∃ l',num l = .ok (n,l')∧l'.map kt = ks:=by
 obtain ⟨l',h1,h2⟩:=nx_kt (acc:=everyB) h rfl (by decide)
 refine ⟨l',?_,h2⟩
 unfold num
 rw [h1]
 show Except.ok (numV (Lib.itoa n),l') = _
 rw [num_tick ht]
theorem lab_kt {l:List Tk} {x:Lb} {ks:List KT} (h:l.map kt = ktLb x ++ ks) (hx:lbOk x = true):∃ l',lab l = .ok (x,l')∧l'.map kt = ks:=by
 simp only [lbOk,Bool.and_eq_true] at hx
 obtain ⟨l1,e1,h1⟩:=nx_kt (acc:=everyB) h rfl (by decide)
 obtain ⟨l2,e2,h2⟩:=num_kt h1 hx.1.2
 obtain ⟨l3,e3,h3⟩:=num_kt h2 hx.2
 refine ⟨l3,?_,h3⟩
 unfold lab
 rw [e1]; simp only [thn]
 rw [e2]; simp only
 rw [e3]
theorem moreF_kt:∀ {l:List (List UInt8)} {ts:List Tk} {ks:List KT} {fs:List (List UInt8)},(∀ f ∈ l,nameR f = true)→(∀ k,ks.head? = some k→k.1 ≠ 5)→ts.map kt = ktFs l ks→∃ ts',moreF ts fs = .ok (fs ++ l,ts')∧ts'.map kt = ks
 | [],ts,ks,fs,_,hk,h=>by
  refine ⟨ts,?_,h⟩
  rw [List.append_nil]
  rcases ts with _ | ⟨t,_ | ⟨u,ts⟩⟩
  ·rfl
  ·rfl
  ·have:t.k ≠ 5:=hk (kt t) (by rw [ktFs] at h; rw [← h]; rfl)
   rw [moreF,if_neg (by simp [isCm,this])]
 | f :: l,ts,ks,fs,hf,hk,h=>by
  obtain ⟨t,ts1,rfl,a1,a2,h1⟩:=kt_cons h
  obtain ⟨u,ts2,rfl,b1,b2,h2⟩:=kt_cons h1
  obtain ⟨ts',h3,h4⟩:=moreF_kt (fs:=fs ++ [f]) (fun y hy=>hf y (List.mem_cons_of_mem _ hy)) hk h2
  refine ⟨ts',?_,h4⟩
  rw [moreF,if_pos (by simp [isCm,a1,a2]),if_pos ⟨b1,by rw [b2]; exact hf f List.mem_cons_self⟩,b2,h3]
  simp
theorem moreL_kt:∀ {l:List Lb} {ts:List Tk} {ks:List KT} {ls:List Lb},(∀ x ∈ l,lbOk x = true)→(∀ k,ks.head? = some k→k.1 ≠ 5)→ts.map kt = ktMore l ++ ks→∃ ts',moreL ts ls = .ok (ls ++ l,ts')∧ts'.map kt = ks
 | [],ts,ks,ls,_,hk,h=>by
  refine ⟨ts,?_,h⟩
  rw [List.append_nil]
  have hn:∀ t u,ts = t :: u→isCm [t] = false:=fun t u e=>by
   subst e
   have:t.k ≠ 5:=hk (kt t) (by rw [ktMore,List.flatMap_nil,List.nil_append] at h; rw [← h]; rfl)
   simp [isCm,this]
  rcases ts with _ | ⟨t,_ | ⟨u,_ | ⟨v,_ | ⟨w,ts⟩⟩⟩⟩
  ·rfl
  ·rfl
  ·rw [moreL,hn t _ rfl]; rfl
  ·rw [moreL,hn t _ rfl]; rfl
  ·rw [moreL,hn t _ rfl]; rfl
 | x :: l,ts,ks,ls,hf,hk,h=>by
  have e:ktMore (x :: l) ++ ks = (5,[44]) :: (4,x.key) :: (2,Lib.itoa x.event) :: (2,Lib.itoa x.know) :: (ktMore l ++ ks):=by simp [ktMore,ktLb]
  rw [e] at h
  obtain ⟨t,ts1,rfl,a1,a2,h1⟩:=kt_cons h
  obtain ⟨u,ts2,rfl,b1,b2,h2⟩:=kt_cons h1
  obtain ⟨v,ts3,rfl,c1,c2,h3⟩:=kt_cons h2
  obtain ⟨w,ts4,rfl,d1,d2,h4⟩:=kt_cons h3
  obtain ⟨ts',h5,h6⟩:=moreL_kt (ls:=ls ++ [x]) (fun y hy=>hf y (List.mem_cons_of_mem _ hy)) hk h4
  have hx:=hf x List.mem_cons_self
  simp only [lbOk,Bool.and_eq_true] at hx
  refine ⟨ts',?_,h6⟩
  rw [moreL,if_pos (by simp [isCm,a1,a2]),if_pos b1,if_pos c1,if_pos d1,b2,c2,d2,num_tick hx.1.2,num_tick hx.2]
  rw [show (⟨x.key,x.event,x.know⟩:Lb) = x from rfl,h5]
  simp
theorem isAt_no {ts:List Tk} {k:Int} {s:List UInt8} {ks:List KT} (h:ts.map kt = (k,s) :: ks) (hk:k ≠ 1):isAtB ts = false:=by
 obtain ⟨t,ts1,rfl,a1,a2,h1⟩:=kt_cons h
 simp [isAtB,a1,hk]
theorem parse_kt {r:Rq} {ts:List Tk} (h:formB r = true) (ht:ts.map kt = ktRq r ++ [(6,[])]):parseTk ts = .ok r:=by
 have hl:∀ x ∈ r.labels,lbOk x = true:=by
  simp only [formB,Bool.and_eq_true,List.all_eq_true] at h
  exact h.2
 obtain ⟨_,hs,hp,_⟩:=tickIn h
 have h':=h
 simp only [formB,headOk,Bool.and_eq_true,decide_eq_true_eq] at h'
 have hf:=featsOk_names h'.1.2
 have hen:nameR r.entity = true:=h'.1.1.1.1.1.1.1.1
 have hnf:1≤r.feats.length:=h'.1.1.1.1.1.1.1.2
 obtain ⟨en,fs,ls,sd,pm⟩:=r
 simp only at *
 cases fs with
 | nil=>simp at hnf
 | cons f fs =>
  have ks1:∀ (a:List KT) (l:List (List UInt8)) (b:List KT),ktFs l a ++ b = ktFs l (a ++ b):=fun a l b=>by
   induction l with
   | nil=>rfl
   | cons x l ih=>simp only [ktFs,List.cons_append,ih]
  simp only [ktRq,ktHead,List.cons_append,ks1] at ht
  obtain ⟨l1,e1,g1⟩:=nx_kt (acc:=(· == [111,102])) ht rfl (by decide)
  obtain ⟨l2,e2,g2⟩:=nx_kt (acc:=nameR) g1 hen (by decide)
  obtain ⟨l3,e3,g3⟩:=nx_kt (acc:=(· == [116,97,107,101])) g2 rfl (by decide)
  obtain ⟨l4,e4,g4⟩:=nx_kt (acc:=nameR) g3 (hf f List.mem_cons_self) (by decide)
  obtain ⟨l5,e5,g5⟩:=moreF_kt (fs:=[f]) (fun y hy=>hf y (List.mem_cons_of_mem _ hy)) (by intro k hk; simp only [ktMid,List.cons_append,List.head?_cons,Option.some.injEq] at hk; rw [← hk]; decide) g4
  simp only [ktMid,List.cons_append] at g5
  obtain ⟨l6,e6,g6⟩:=nx_kt (acc:=(· == [115,101,101,100])) g5 rfl (by decide)
  obtain ⟨l7,e7,g7⟩:=num_kt g6 hs
  obtain ⟨l8,e8,g8⟩:=nx_kt (acc:=(· == [107,101,101,112])) g7 rfl (by decide)
  obtain ⟨l9,e9,g9⟩:=num_kt g8 hp
  unfold parseTk
  rw [e1]; simp only [thn]
  rw [k11,e2]; simp only [thn]
  rw [k12,e3]; simp only [thn]
  rw [k13,e4]; simp only [thn]
  rw [kMf,e5]; simp only [thn]
  rw [k14,e6]; simp only [thn]
  rw [k15,e7]; simp only [thn]
  rw [k16,e8]; simp only [thn]
  rw [k17,e9]; simp only [thn,List.singleton_append]
  have hend:∀ (r:Rq) (l:List Tk),l.map kt = [(6,[])]→k21 r l = .ok r:=fun r l hl=>by
   obtain ⟨t,l',rfl,a1,a2,_⟩:=kt_cons hl
   rw [k21,nx,if_pos ⟨a1,rfl⟩]; rfl
  cases ls with
  | nil =>
   simp only [ktTail,List.nil_append] at g9
   rw [k18,isAt_no g9 (by decide)]
   exact hend _ _ g9
  | cons x ls =>
   simp only [ktTail,List.cons_append,List.append_assoc] at g9
   obtain ⟨t,l10,rfl,a1,a2,g10⟩:=kt_cons g9
   obtain ⟨l11,e11,g11⟩:=lab_kt g10 (hl x List.mem_cons_self)
   obtain ⟨l12,e12,g12⟩:=moreL_kt (ls:=[x]) (fun y hy=>hl y (List.mem_cons_of_mem _ hy)) (by intro k hk; simp only [List.head?_cons,Option.some.injEq] at hk; rw [← hk]; decide) g11
   rw [k18,if_pos (by simp [isAtB,a1,a2]),List.tail_cons,k20,e11]; simp only [thn]
   rw [kMl,e12]; simp only [thn]
   rw [hend _ _ g12]
   rfl
theorem prB_fmt {r:Rq} (h:formB r = true) (hl:(fmtL r).length≤16384):prB (fmtL r) = ⟨r,0,0⟩:=by
 obtain ⟨h1,h2⟩:=toks_rq h 0
 have eT:(lexT (fmtL r)).map kt = ktRq r ++ [(6,[])]:=by
  unfold lexT
  rw [if_pos hl]
  unfold toksX
  rw [List.map_map,List.map_append,← h1]
  rfl
 have eP:lexP (fmtL r) = []:=by
  unfold lexP
  rw [if_pos hl]
  unfold probsL
  rw [h2]; rfl
 have eE:lexE (fmtL r) = 0:=if_pos hl
 have hne:lexT (fmtL r) ≠ []:=fun e=>by rw [e] at eT; simp [ktRq] at eT
 unfold prB prT
 rw [eE,if_neg (by simp),eP]
 simp only
 rw [if_neg hne,parse_kt h eT]
 unfold prP
 simp only
 rw [if_pos h]
theorem prB_long {r:Rq} (hl:¬ (fmtL r).length≤16384):prB (fmtL r) = ⟨zRq,0,2⟩:=by
 have eE:lexE (fmtL r) = 2:=if_neg hl
 unfold prB prT
 rw [eE,if_pos (by decide)]
def ksum (l:List Lb):Nat:=(l.map fun x=>x.key.length).sum
where
 thn_ok' {α β:Type} {x:Except Int α} {f:α→Except Int β} {b:β} (h:thn x f = .ok b):∃ a,x = .ok a∧f a = .ok b:=by
  cases x with
  | error e=>cases h
  | ok a=>exact ⟨a,rfl,h⟩
theorem tail_len:∀ (l:List Lb) (b:List UInt8),b.length≤4→(∀ x ∈ l,lbOk x = true)→(fmtTail b l).length≤ksum l + l.length * 50
 | [],b,_,_=>by simp [fmtTail]
 | x :: l,b,hb,h=>by
  have ih:=tail_len l [44,32] (by simp) fun y hy=>h y (List.mem_cons_of_mem _ hy)
  have hx:=h x List.mem_cons_self
  simp only [lbOk,Bool.and_eq_true] at hx
  have t1:=tick_iff.1 hx.1.2
  have t2:=tick_iff.1 hx.2
  have i1:=Lib.itoa_length_le x.event (by omega) (by omega)
  have i2:=Lib.itoa_length_le x.know (by omega) (by omega)
  have e:ksum (x :: l) = x.key.length + ksum l:=by simp [ksum]
  rw [e]
  simp only [fmtTail,lbT,List.length_append,List.length_cons,List.length_nil]
  omega
end Go.Abs
namespace Go.Abs
open Go.Proofs Go.Wire
theorem w65a (m:Int) (a:Int) (bs:List UInt8) (b0 b1 b2:List AV) (os:List POut):(pnW PQ idMk (GQ m) XD (tbl tD) (itbl []) fsD J0 g65 65 [.ptr 3 0,.fn 34 []] (u4 b0 b1 b2 (bytesL bs) a []) os) =
(∃ (s:List UInt8),
  ∃ (n:Int),
    ∃ (n_1:Int),
      CallIs
 (tbl [((34:Nat),sReadText),((35:Nat),sReadUint),((68:Nat),s68)] ((34:Nat)) [AV.sl ((1:Nat)) (bytesL bs) Own.no,AV.int IntKind.i64 a])
 (AV.tup [AV.str s,AV.int IntKind.i64 n,AV.int IntKind.i64 n_1]) [] ∧
        ((n_1 != (0:Int)) = true →
 PEnd
 (AV.p2 (4:Nat) (AV.tup []) && boxesOk (4:Nat) [some b0,some b1,some b2,some [AV.sl ((1:Nat)) (bytesL bs) Own.no,AV.int IntKind.i64 a]])
 (some (Value.iface ((88:Nat)) (Value.agg #[Value.int IntKind.i64 (0:Int),Value.int IntKind.i64 n_1]))) (AV.tup [])
 { boxes:=[some b0,some b1,some b2,some [AV.sl ((1:Nat)) (bytesL bs) Own.no,AV.int IntKind.i64 a]],live:=[] } os) ∧
 ((n_1 != (0:Int)) = false →
 PEnd
 (AV.p2 (4:Nat) (AV.str s) && boxesOk (4:Nat) [some b0,some b1,some b2,some [AV.sl ((1:Nat)) (bytesL bs) Own.no,AV.int IntKind.i64 n]])
 none (AV.str s) { boxes:=[some b0,some b1,some b2,some [AV.sl ((1:Nat)) (bytesL bs) Own.no,AV.int IntKind.i64 n]],live:=[] } os)):=by kernel_rfl
theorem w65c (m:Int) (a:Int) (bs:List UInt8) (b0 b1 b2:List AV) (q:Nat × TypeId) (os:List POut):(pnW PQ idMk (GQ m) XD (tbl tD) (itbl []) fsD J0 g65 65 [.ptr 3 0,.fn 34 []] (u4 b0 b1 b2 (bytesL bs) a [q]) os) =
(∃ (s:List UInt8),
  ∃ (n:Int),
    ∃ (n_1:Int),
      CallIs
 (tbl [((34:Nat),sReadText),((35:Nat),sReadUint),((68:Nat),s68)] ((34:Nat)) [AV.sl ((1:Nat)) (bytesL bs) Own.no,AV.int IntKind.i64 a])
 (AV.tup [AV.str s,AV.int IntKind.i64 n,AV.int IntKind.i64 n_1]) [] ∧
        ((n_1 != (0:Int)) = true →
 PEnd
 (AV.p2 (4:Nat) (AV.tup []) && boxesOk (4:Nat) [some b0,some b1,some b2,some [AV.sl ((1:Nat)) (bytesL bs) Own.no,AV.int IntKind.i64 a]])
 (some (Value.iface ((88:Nat)) (Value.agg #[Value.int IntKind.i64 (0:Int),Value.int IntKind.i64 n_1]))) (AV.tup [])
 { boxes:=[some b0,some b1,some b2,some [AV.sl ((1:Nat)) (bytesL bs) Own.no,AV.int IntKind.i64 a]],live:=[q] } os) ∧
 ((n_1 != (0:Int)) = false →
 PEnd
 (AV.p2 (4:Nat) (AV.str s) && boxesOk (4:Nat) [some b0,some b1,some b2,some [AV.sl ((1:Nat)) (bytesL bs) Own.no,AV.int IntKind.i64 n]])
 none (AV.str s) { boxes:=[some b0,some b1,some b2,some [AV.sl ((1:Nat)) (bytesL bs) Own.no,AV.int IntKind.i64 n]],live:=[q] } os)):=by kernel_rfl
theorem w65b (m:Int) (a:Int) (bs:List UInt8) (b0 b1 b2:List AV) (q q2:Nat × TypeId) (os:List POut):(pnW PQ idMk (GQ m) XD (tbl tD) (itbl []) fsD J0 g65 65 [.ptr 3 0,.fn 34 []] (u5 b0 b1 b2 (bytesL bs) a none [q,q2]) os) =
(∃ (s:List UInt8),
  ∃ (n:Int),
    ∃ (n_1:Int),
      CallIs
 (tbl [((34:Nat),sReadText),((35:Nat),sReadUint),((68:Nat),s68)] ((34:Nat)) [AV.sl ((1:Nat)) (bytesL bs) Own.no,AV.int IntKind.i64 a])
 (AV.tup [AV.str s,AV.int IntKind.i64 n,AV.int IntKind.i64 n_1]) [] ∧
        ((n_1 != (0:Int)) = true →
 PEnd
 (AV.p2 (5:Nat) (AV.tup []) &&
 boxesOk (5:Nat) [some b0,some b1,some b2,some [AV.sl ((1:Nat)) (bytesL bs) Own.no,AV.int IntKind.i64 a],none])
 (some (Value.iface ((88:Nat)) (Value.agg #[Value.int IntKind.i64 (0:Int),Value.int IntKind.i64 n_1]))) (AV.tup [])
 { boxes:=[some b0,some b1,some b2,some [AV.sl ((1:Nat)) (bytesL bs) Own.no,AV.int IntKind.i64 a],none],live:=[q,q2] } os) ∧
 ((n_1 != (0:Int)) = false →
 PEnd
 (AV.p2 (5:Nat) (AV.str s) &&
 boxesOk (5:Nat) [some b0,some b1,some b2,some [AV.sl ((1:Nat)) (bytesL bs) Own.no,AV.int IntKind.i64 n],none])
 none (AV.str s) { boxes:=[some b0,some b1,some b2,some [AV.sl ((1:Nat)) (bytesL bs) Own.no,AV.int IntKind.i64 n],none],live:=[q,q2] }
 os)):=by kernel_rfl
theorem w67a (m:Int) (a:Int) (bs:List UInt8) (b0 b1 b2:List AV) (q q2:Nat × TypeId) (os:List POut):(pnW PQ idMk (GQ m) XD (tbl tD) (itbl []) fsD J0 g65 67 [.ptr 3 0,.fn 68 []] (u4 b0 b1 b2 (bytesL bs) a [q,q2]) os) =
(∃ (n:Int),
  ∃ (n_1:Int),
    ∃ (n_2:Int),
      CallIs
 (tbl [((34:Nat),sReadText),((35:Nat),sReadUint),((68:Nat),s68)] ((68:Nat)) [AV.sl ((1:Nat)) (bytesL bs) Own.no,AV.int IntKind.i64 a])
 (AV.tup [AV.int IntKind.i64 n,AV.int IntKind.i64 n_1,AV.int IntKind.i64 n_2]) [] ∧
        ((n_2 != (0:Int)) = true →
 PEnd
 (AV.p2 (4:Nat) (AV.tup []) && boxesOk (4:Nat) [some b0,some b1,some b2,some [AV.sl ((1:Nat)) (bytesL bs) Own.no,AV.int IntKind.i64 a]])
 (some (Value.iface ((88:Nat)) (Value.agg #[Value.int IntKind.i64 (0:Int),Value.int IntKind.i64 n_2]))) (AV.tup [])
 { boxes:=[some b0,some b1,some b2,some [AV.sl ((1:Nat)) (bytesL bs) Own.no,AV.int IntKind.i64 a]],live:=[q,q2] } os) ∧
 ((n_2 != (0:Int)) = false →
 PEnd
 (AV.p2 (4:Nat) (AV.int IntKind.i64 n) &&
 boxesOk (4:Nat) [some b0,some b1,some b2,some [AV.sl ((1:Nat)) (bytesL bs) Own.no,AV.int IntKind.i64 n_1]])
 none (AV.int IntKind.i64 n)
 { boxes:=[some b0,some b1,some b2,some [AV.sl ((1:Nat)) (bytesL bs) Own.no,AV.int IntKind.i64 n_1]],live:=[q,q2] } os)):=by kernel_rfl
theorem w67b (m:Int) (a:Int) (bs:List UInt8) (b0 b1 b2 b4:List AV) (q q2:Nat × TypeId) (os:List POut):(pnW PQ idMk (GQ m) XD (tbl tD) (itbl []) fsD J0 g65 67 [.ptr 3 0,.fn 68 []] (u5 b0 b1 b2 (bytesL bs) a (some b4) [q,q2]) os) =
(∃ (n:Int),
  ∃ (n_1:Int),
    ∃ (n_2:Int),
      CallIs
 (tbl [((34:Nat),sReadText),((35:Nat),sReadUint),((68:Nat),s68)] ((68:Nat)) [AV.sl ((1:Nat)) (bytesL bs) Own.no,AV.int IntKind.i64 a])
 (AV.tup [AV.int IntKind.i64 n,AV.int IntKind.i64 n_1,AV.int IntKind.i64 n_2]) [] ∧
        ((n_2 != (0:Int)) = true →
 PEnd
 (AV.p2 (5:Nat) (AV.tup []) &&
 boxesOk (5:Nat) [some b0,some b1,some b2,some [AV.sl ((1:Nat)) (bytesL bs) Own.no,AV.int IntKind.i64 a],some b4])
 (some (Value.iface ((88:Nat)) (Value.agg #[Value.int IntKind.i64 (0:Int),Value.int IntKind.i64 n_2]))) (AV.tup [])
 { boxes:=[some b0,some b1,some b2,some [AV.sl ((1:Nat)) (bytesL bs) Own.no,AV.int IntKind.i64 a],some b4],live:=[q,q2] } os) ∧
 ((n_2 != (0:Int)) = false →
 PEnd
 (AV.p2 (5:Nat) (AV.int IntKind.i64 n) &&
 boxesOk (5:Nat) [some b0,some b1,some b2,some [AV.sl ((1:Nat)) (bytesL bs) Own.no,AV.int IntKind.i64 n_1],some b4])
 none (AV.int IntKind.i64 n)
 { boxes:=[some b0,some b1,some b2,some [AV.sl ((1:Nat)) (bytesL bs) Own.no,AV.int IntKind.i64 n_1],some b4],live:=[q,q2] } os)):=by kernel_rfl
theorem w115a (m:Int) (a:Int) (bs:List UInt8) (b0 b1 b2:List AV) (os:List POut):(pnW PQ idMk (GQ m) XD (tbl tD) (itbl []) fsD J0 g65 115 [.ptr 3 0,.fn 35 []] (u4 b0 b1 b2 (bytesL bs) a []) os) =
(∃ (n:Int),
  ∃ (n_1:Int),
    ∃ (n_2:Int),
      CallIs
 (tbl [((34:Nat),sReadText),((35:Nat),sReadUint),((68:Nat),s68)] ((35:Nat)) [AV.sl ((1:Nat)) (bytesL bs) Own.no,AV.int IntKind.i64 a])
 (AV.tup [AV.int IntKind.u64 n,AV.int IntKind.i64 n_1,AV.int IntKind.i64 n_2]) [] ∧
        ((n_2 != (0:Int)) = true →
 PEnd
 (AV.p2 (4:Nat) (AV.tup []) && boxesOk (4:Nat) [some b0,some b1,some b2,some [AV.sl ((1:Nat)) (bytesL bs) Own.no,AV.int IntKind.i64 a]])
 (some (Value.iface ((88:Nat)) (Value.agg #[Value.int IntKind.i64 (0:Int),Value.int IntKind.i64 n_2]))) (AV.tup [])
 { boxes:=[some b0,some b1,some b2,some [AV.sl ((1:Nat)) (bytesL bs) Own.no,AV.int IntKind.i64 a]],live:=[] } os) ∧
 ((n_2 != (0:Int)) = false →
 PEnd
 (AV.p2 (4:Nat) (AV.int IntKind.u64 n) &&
 boxesOk (4:Nat) [some b0,some b1,some b2,some [AV.sl ((1:Nat)) (bytesL bs) Own.no,AV.int IntKind.i64 n_1]])
 none (AV.int IntKind.u64 n)
 { boxes:=[some b0,some b1,some b2,some [AV.sl ((1:Nat)) (bytesL bs) Own.no,AV.int IntKind.i64 n_1]],live:=[] } os)):=by kernel_rfl
theorem w115 (m:Int) (a:Int) (bs:List UInt8) (b0 b1 b2:List AV) (q:Nat × TypeId) (os:List POut):(pnW PQ idMk (GQ m) XD (tbl tD) (itbl []) fsD J0 g65 115 [.ptr 3 0,.fn 35 []] (u4 b0 b1 b2 (bytesL bs) a [q]) os) =
(∃ (n:Int),
  ∃ (n_1:Int),
    ∃ (n_2:Int),
      CallIs
 (tbl [((34:Nat),sReadText),((35:Nat),sReadUint),((68:Nat),s68)] ((35:Nat)) [AV.sl ((1:Nat)) (bytesL bs) Own.no,AV.int IntKind.i64 a])
 (AV.tup [AV.int IntKind.u64 n,AV.int IntKind.i64 n_1,AV.int IntKind.i64 n_2]) [] ∧
        ((n_2 != (0:Int)) = true →
 PEnd
 (AV.p2 (4:Nat) (AV.tup []) && boxesOk (4:Nat) [some b0,some b1,some b2,some [AV.sl ((1:Nat)) (bytesL bs) Own.no,AV.int IntKind.i64 a]])
 (some (Value.iface ((88:Nat)) (Value.agg #[Value.int IntKind.i64 (0:Int),Value.int IntKind.i64 n_2]))) (AV.tup [])
 { boxes:=[some b0,some b1,some b2,some [AV.sl ((1:Nat)) (bytesL bs) Own.no,AV.int IntKind.i64 a]],live:=[q] } os) ∧
 ((n_2 != (0:Int)) = false →
 PEnd
 (AV.p2 (4:Nat) (AV.int IntKind.u64 n) &&
 boxesOk (4:Nat) [some b0,some b1,some b2,some [AV.sl ((1:Nat)) (bytesL bs) Own.no,AV.int IntKind.i64 n_1]])
 none (AV.int IntKind.u64 n)
 { boxes:=[some b0,some b1,some b2,some [AV.sl ((1:Nat)) (bytesL bs) Own.no,AV.int IntKind.i64 n_1]],live:=[q] } os)):=by kernel_rfl
abbrev w66ac1 (b0:List AV) (b1:List AV) (b2:List AV) (bs:List UInt8) (a:Int):List (Option (List AV)):=[some b0,some b1,some b2,some [AV.sl ((1:Nat)) (bytesL bs) Own.no,AV.int IntKind.i64 (keptUi (bytesL bs) a).snd.fst]]
theorem w66a (m:Int) (a k:Int) (bs:List UInt8) (b0 b1 b2:List AV) (os:List POut):(pnW PQ idMk (GQ m) XD (tbl tD) (itbl []) fsD (ptbl [(115,s115)] J0) g66 66 [.ptr 3 0,.int .u64 k] (u4 b0 b1 b2 (bytesL bs) a []) os) =
((BytL (bytesL bs)∧b0.all (AV.p1 (4:Nat)) = true∧b1.all (AV.p1 (4:Nat)) = true∧b2.all (AV.p1 (4:Nat)) = true)∧((keptUi (bytesL bs) a).snd.snd = (0:Int)→(decide ((keptUi (bytesL bs) a).fst > k) = true→PEnd (AV.p2 (4:Nat) (AV.tup []) && boxesOk (4:Nat) (w66ac1 b0 b1 b2 bs a)) (some (Value.iface ((88:Nat)) (Value.agg #[Value.int IntKind.i64 (0:Int),Value.int IntKind.i64 (240:Int)]))) (AV.tup []) { boxes:=(w66ac1 b0 b1 b2 bs a),live:=[] } os)∧(decide ((keptUi (bytesL bs) a).fst > k) = false→PEnd (AV.p2 (4:Nat) (AV.int IntKind.i64 (IntKind.i64.wrap (keptUi (bytesL bs) a).fst)) && boxesOk (4:Nat) (w66ac1 b0 b1 b2 bs a)) none (AV.int IntKind.i64 (IntKind.i64.wrap (keptUi (bytesL bs) a).fst)) { boxes:=(w66ac1 b0 b1 b2 bs a),live:=[] } os))∧(((keptUi (bytesL bs) a).snd.snd = (0:Int)→False)→PEnd (AV.p2 (4:Nat) (AV.tup []) && boxesOk (4:Nat) [some b0,some b1,some b2,some [AV.sl ((1:Nat)) (bytesL bs) Own.no,AV.int IntKind.i64 a]]) (some (Value.iface ((88:Nat)) (Value.agg #[Value.int IntKind.i64 (0:Int),Value.int IntKind.i64 (keptUi (bytesL bs) a).snd.snd]))) (AV.tup []) { boxes:=[some b0,some b1,some b2,some [AV.sl ((1:Nat)) (bytesL bs) Own.no,AV.int IntKind.i64 a]],live:=[] } os)∧True):=by kernel_rfl
abbrev w66c1 (b0:List AV) (b1:List AV) (b2:List AV) (bs:List UInt8) (a:Int):List (Option (List AV)):=[some b0,some b1,some b2,some [AV.sl ((1:Nat)) (bytesL bs) Own.no,AV.int IntKind.i64 (keptUi (bytesL bs) a).snd.fst]]
theorem w66 (m:Int) (a k:Int) (bs:List UInt8) (b0 b1 b2:List AV) (q:Nat × TypeId) (os:List POut):(pnW PQ idMk (GQ m) XD (tbl tD) (itbl []) fsD (ptbl [(115,s115)] J0) g66 66 [.ptr 3 0,.int .u64 k] (u4 b0 b1 b2 (bytesL bs) a [q]) os) =
((BytL (bytesL bs)∧b0.all (AV.p1 (4:Nat)) = true∧b1.all (AV.p1 (4:Nat)) = true∧b2.all (AV.p1 (4:Nat)) = true)∧((keptUi (bytesL bs) a).snd.snd = (0:Int)→(decide ((keptUi (bytesL bs) a).fst > k) = true→PEnd (AV.p2 (4:Nat) (AV.tup []) && boxesOk (4:Nat) (w66c1 b0 b1 b2 bs a)) (some (Value.iface ((88:Nat)) (Value.agg #[Value.int IntKind.i64 (0:Int),Value.int IntKind.i64 (240:Int)]))) (AV.tup []) { boxes:=(w66c1 b0 b1 b2 bs a),live:=[q] } os)∧(decide ((keptUi (bytesL bs) a).fst > k) = false→PEnd (AV.p2 (4:Nat) (AV.int IntKind.i64 (IntKind.i64.wrap (keptUi (bytesL bs) a).fst)) && boxesOk (4:Nat) (w66c1 b0 b1 b2 bs a)) none (AV.int IntKind.i64 (IntKind.i64.wrap (keptUi (bytesL bs) a).fst)) { boxes:=(w66c1 b0 b1 b2 bs a),live:=[q] } os))∧(((keptUi (bytesL bs) a).snd.snd = (0:Int)→False)→PEnd (AV.p2 (4:Nat) (AV.tup []) && boxesOk (4:Nat) [some b0,some b1,some b2,some [AV.sl ((1:Nat)) (bytesL bs) Own.no,AV.int IntKind.i64 a]]) (some (Value.iface ((88:Nat)) (Value.agg #[Value.int IntKind.i64 (0:Int),Value.int IntKind.i64 (keptUi (bytesL bs) a).snd.snd]))) (AV.tup []) { boxes:=[some b0,some b1,some b2,some [AV.sl ((1:Nat)) (bytesL bs) Own.no,AV.int IntKind.i64 a]],live:=[q] } os)∧True):=by kernel_rfl
theorem bOkI4 {b0 b1 b2:List AV} {es:List AV} {a:Int} (h0:pOk 4 b0) (h1:pOk 4 b1) (h2:pOk 4 b2):boxesOk 4 [some b0,some b1,some b2,some [.sl 1 es .no,.int .i64 a]] = true:=by
 unfold pOk at h0 h1 h2
 simp only [boxesOk,h0,h1,h2,Bool.or_true,Bool.true_and]
 rfl
theorem bOkI5 {b0 b1 b2:List AV} {b4:Option (List AV)} {es:List AV} {a:Int} (h0:pOk 5 b0) (h1:pOk 5 b1) (h2:pOk 5 b2) (h4:boxesOk 5 [b4] = true):boxesOk 5 [some b0,some b1,some b2,some [.sl 1 es .no,.int .i64 a],b4] = true:=by
 unfold pOk at h0 h1 h2
 have:boxesOk 5 (some b0 :: some b1 :: some b2 :: some [.sl 1 es .no,.int .i64 a] :: [b4]) = boxesOk 5 [b4]:=by
  simp only [boxesOk,h0,h1,h2,Bool.or_true,Bool.true_and]
  rfl
 rw [this,h4]
theorem tblMiss {f g:FuncId} {s:Spec} {l:List (FuncId × Spec)} {args:List AV} (h:f ≠ g):tbl ((g,s) :: l) f args = tbl l f args:=by simp only [tbl,if_neg h]
theorem sReadText_at {bs:List UInt8} {at_:Int} {o:Own} (h:strOk bs):sReadText [.sl 1 (bytesL bs) o,.int .i64 at_] = some (rText (textA bs at_),[]):=by
 unfold strOk at h
 have h2:lenOk bs:=by unfold lenOk; omega
 simp only [sReadText,true_or,if_true,unBytes_mk,Option.bind_some,h2,rText]
theorem s68_at {bs:List UInt8} {at_:Int} {o:Own} (h:strOk bs):s68 [.sl 1 (bytesL bs) o,.int .i64 at_] = some (wInt (sintA bs at_),[]):=sRd_at h
theorem tD_ok (m:Int):CalleeOk PQ (GQ m) (tbl tD):=tbl_cons o34 (tbl_cons o35 (tbl_cons (o68 m) tbl_nil))
theorem two_ok {ok:Bool} {r:AV} {S1 S2:St} {c:Prop} {v:Value} (hc:c) (hok:ok = true):PEnd ok none r S1 [⟨c,none,r,S1⟩,⟨¬ c,some v,.tup [],S2⟩]:=⟨hok,_,List.mem_cons_self,hc,rfl,rfl,rfl⟩
theorem two_no {ok:Bool} {r:AV} {S1 S2:St} {c:Prop} {v:Value} (hc:¬ c) (hok:ok = true):PEnd ok (some v) (.tup []) S2 [⟨c,none,r,S1⟩,⟨¬ c,some v,.tup [],S2⟩]:=⟨hok,_,List.mem_cons_of_mem _ List.mem_cons_self,hc,rfl,rfl,rfl⟩
theorem keptTx_ok (bs:List UInt8) (a:Int):keptTx (bytesL bs) a = textA bs a:=by unfold keptTx; rw [keptBy_ok]
theorem keptIn_ok (bs:List UInt8) (a:Int):keptIn (bytesL bs) a = sintA bs a:=by unfold keptIn; rw [keptBy_ok]
theorem keptUi_ok (bs:List UInt8) (a:Int):keptUi (bytesL bs) a = uintA bs a:=by unfold keptUi; rw [keptBy_ok]
theorem wrapUi (a:Int) (bs:List UInt8) (_:strOk bs) (k:Int) (hk:k≤1000) (c:¬ k < (uintA bs a).1):IntKind.i64.wrap (uintA bs a).1 = (uintA bs a).1:=by
 obtain ⟨h0,h1⟩:=uintA_bound (bs:=bs) (at_:=a)
 rw [wrapi64]; omega
section
variable (m a : Int) (bs : List UInt8) (b0 b1 b2 b4 : List AV) (q q2 : Nat × TypeId) (hb : strOk bs)
include hb
theorem p65a (h0:pOk 4 b0) (h1:pOk 4 b1) (h2:pOk 4 b2):PnOk PQ (GQ m) XD (tbl tD) (itbl []) fsD J0 g65 65 [.ptr 3 0,.fn 34 []] (u4 b0 b1 b2 (bytesL bs) a []) (txOuts (bytesL bs) a fun a=>u4 b0 b1 b2 (bytesL bs) a []):=by
 constructor
 rw [w65a,tbl_hit,sReadText_at hb]; unfold txOuts; rw [keptTx_ok]
 refine ⟨_,_,_,callSome rfl,fun c=>two_no (by simpa using c) (by rw [bOkI4 h0 h1 h2]; rfl),fun c=>two_ok (by simpa using c) (by rw [bOkI4 h0 h1 h2]; rfl)⟩
theorem p65c (h0:pOk 4 b0) (h1:pOk 4 b1) (h2:pOk 4 b2):PnOk PQ (GQ m) XD (tbl tD) (itbl []) fsD J0 g65 65 [.ptr 3 0,.fn 34 []] (u4 b0 b1 b2 (bytesL bs) a [q]) (txOuts (bytesL bs) a fun a=>u4 b0 b1 b2 (bytesL bs) a [q]):=by
 constructor
 rw [w65c,tbl_hit,sReadText_at hb]; unfold txOuts; rw [keptTx_ok]
 refine ⟨_,_,_,callSome rfl,fun c=>two_no (by simpa using c) (by rw [bOkI4 h0 h1 h2]; rfl),fun c=>two_ok (by simpa using c) (by rw [bOkI4 h0 h1 h2]; rfl)⟩
theorem p65b (h0:pOk 5 b0) (h1:pOk 5 b1) (h2:pOk 5 b2):PnOk PQ (GQ m) XD (tbl tD) (itbl []) fsD J0 g65 65 [.ptr 3 0,.fn 34 []] (u5 b0 b1 b2 (bytesL bs) a none [q,q2]) (txOuts (bytesL bs) a fun a=>u5 b0 b1 b2 (bytesL bs) a none [q,q2]):=by
 constructor
 rw [w65b,tbl_hit,sReadText_at hb]; unfold txOuts; rw [keptTx_ok]
 refine ⟨_,_,_,callSome rfl,fun c=>two_no (by simpa using c) (by rw [bOkI5 h0 h1 h2 rfl]; rfl),fun c=>two_ok (by simpa using c) (by rw [bOkI5 h0 h1 h2 rfl]; rfl)⟩
theorem p67a (h0:pOk 4 b0) (h1:pOk 4 b1) (h2:pOk 4 b2):PnOk PQ (GQ m) XD (tbl tD) (itbl []) fsD J0 g65 67 [.ptr 3 0,.fn 68 []] (u4 b0 b1 b2 (bytesL bs) a [q,q2]) (inOuts (bytesL bs) a fun a=>u4 b0 b1 b2 (bytesL bs) a [q,q2]):=by
 constructor
 rw [w67a,tblMiss (by decide),tblMiss (by decide),tbl_hit,s68_at hb]; unfold inOuts; rw [keptIn_ok]
 refine ⟨_,_,_,callSome rfl,fun c=>two_no (by simpa using c) (by rw [bOkI4 h0 h1 h2]; rfl),fun c=>two_ok (by simpa using c) (by rw [bOkI4 h0 h1 h2]; rfl)⟩
theorem p67b (h0:pOk 5 b0) (h1:pOk 5 b1) (h2:pOk 5 b2) (h4:pOk 5 b4):PnOk PQ (GQ m) XD (tbl tD) (itbl []) fsD J0 g65 67 [.ptr 3 0,.fn 68 []] (u5 b0 b1 b2 (bytesL bs) a (some b4) [q,q2]) (inOuts (bytesL bs) a fun a=>u5 b0 b1 b2 (bytesL bs) a (some b4) [q,q2]):=by
 have h5:boxesOk 5 [some b4] = true:=by
  unfold pOk at h4
  simp only [boxesOk,h4,Bool.or_true,Bool.true_and]
 constructor
 rw [w67b,tblMiss (by decide),tblMiss (by decide),tbl_hit,s68_at hb]; unfold inOuts; rw [keptIn_ok]
 refine ⟨_,_,_,callSome rfl,fun c=>two_no (by simpa using c) (by rw [bOkI5 h0 h1 h2 h5]; rfl),fun c=>two_ok (by simpa using c) (by rw [bOkI5 h0 h1 h2 h5]; rfl)⟩
theorem p115a (h0:pOk 4 b0) (h1:pOk 4 b1) (h2:pOk 4 b2):PnOk PQ (GQ m) XD (tbl tD) (itbl []) fsD J0 g65 115 [.ptr 3 0,.fn 35 []] (u4 b0 b1 b2 (bytesL bs) a []) (uiOuts (bytesL bs) a fun a=>u4 b0 b1 b2 (bytesL bs) a []):=by
 constructor
 rw [w115a,tblMiss (by decide),tbl_hit,sReadUint_at hb]; unfold uiOuts; rw [keptUi_ok]
 refine ⟨_,_,_,callSome rfl,fun c=>two_no (by simpa using c) (by rw [bOkI4 h0 h1 h2]; rfl),fun c=>two_ok (by simpa using c) (by rw [bOkI4 h0 h1 h2]; rfl)⟩
theorem p115 (h0:pOk 4 b0) (h1:pOk 4 b1) (h2:pOk 4 b2):PnOk PQ (GQ m) XD (tbl tD) (itbl []) fsD J0 g65 115 [.ptr 3 0,.fn 35 []] (u4 b0 b1 b2 (bytesL bs) a [q]) (uiOuts (bytesL bs) a fun a=>u4 b0 b1 b2 (bytesL bs) a [q]):=by
 constructor
 rw [w115,tblMiss (by decide),tbl_hit,sReadUint_at hb]; unfold uiOuts; rw [keptUi_ok]
 refine ⟨_,_,_,callSome rfl,fun c=>two_no (by simpa using c) (by rw [bOkI4 h0 h1 h2]; rfl),fun c=>two_ok (by simpa using c) (by rw [bOkI4 h0 h1 h2]; rfl)⟩
variable (k : Int) (hk : k ≤ 1000)
include hk
theorem p66a (h0:pOk 4 b0) (h1:pOk 4 b1) (h2:pOk 4 b2):PnOk PQ (GQ m) XD (tbl tD) (itbl []) fsD (ptbl [(115,s115)] J0) g66 66 [.ptr 3 0,.int .u64 k] (u4 b0 b1 b2 (bytesL bs) a []) (manyOuts (bytesL bs) a k fun a=>u4 b0 b1 b2 (bytesL bs) a []):=by
 constructor
 rw [w66a]; unfold w66ac1; unfold manyOuts; rw [keptUi_ok]
 refine ⟨⟨⟨bs,rfl,hb⟩,h0,h1,h2⟩,fun c=>⟨fun d=>⟨by rw [bOkI4 h0 h1 h2]; rfl,_,List.mem_cons_of_mem _ (List.mem_cons_of_mem _ List.mem_cons_self),⟨c,of_decide_eq_true d⟩,rfl,rfl,rfl⟩,fun d=>⟨by rw [bOkI4 h0 h1 h2]; rfl,_,List.mem_cons_self,⟨c,Int.not_lt.mp (of_decide_eq_false d)⟩,rfl,by rw [wrapUi a bs hb k hk (of_decide_eq_false d)],rfl⟩⟩,fun c=>⟨by rw [bOkI4 h0 h1 h2]; rfl,_,List.mem_cons_of_mem _ List.mem_cons_self,c,rfl,rfl,rfl⟩,trivial⟩
theorem p66 (h0:pOk 4 b0) (h1:pOk 4 b1) (h2:pOk 4 b2):PnOk PQ (GQ m) XD (tbl tD) (itbl []) fsD (ptbl [(115,s115)] J0) g66 66 [.ptr 3 0,.int .u64 k] (u4 b0 b1 b2 (bytesL bs) a [q]) (manyOuts (bytesL bs) a k fun a=>u4 b0 b1 b2 (bytesL bs) a [q]):=by
 constructor
 rw [w66]; unfold w66c1; unfold manyOuts; rw [keptUi_ok]
 refine ⟨⟨⟨bs,rfl,hb⟩,h0,h1,h2⟩,fun c=>⟨fun d=>⟨by rw [bOkI4 h0 h1 h2]; rfl,_,List.mem_cons_of_mem _ (List.mem_cons_of_mem _ List.mem_cons_self),⟨c,of_decide_eq_true d⟩,rfl,rfl,rfl⟩,fun d=>⟨by rw [bOkI4 h0 h1 h2]; rfl,_,List.mem_cons_self,⟨c,Int.not_lt.mp (of_decide_eq_false d)⟩,rfl,by rw [wrapUi a bs hb k hk (of_decide_eq_false d)],rfl⟩⟩,fun c=>⟨by rw [bOkI4 h0 h1 h2]; rfl,_,List.mem_cons_of_mem _ List.mem_cons_self,c,rfl,rfl,rfl⟩,trivial⟩
end
theorem o65 (m:Int):PSpecOk PQ (GQ m) 65 s65:=pspec_of mixedQ fun args S p os h hp=>by
 unfold s65 at h
 split at h
 case h_4=>cases h
 all_goals
  injection h with h
  injection h with e1 e2
  subst e1; subst e2
  obtain ⟨⟨bs,rfl,hb⟩,h0,h1,h2⟩:=hp
 ·exact ⟨_,_,_,_,_,_,tD_ok m,itbl_nil,J0_ok,p65a m _ bs _ _ _ hb h0 h1 h2⟩
 ·exact ⟨_,_,_,_,_,_,tD_ok m,itbl_nil,J0_ok,p65c m _ bs _ _ _ _ hb h0 h1 h2⟩
 ·exact ⟨_,_,_,_,_,_,tD_ok m,itbl_nil,J0_ok,p65b m _ bs _ _ _ _ _ hb h0 h1 h2⟩
theorem o67 (m:Int):PSpecOk PQ (GQ m) 67 s67:=pspec_of mixedQ fun args S p os h hp=>by
 unfold s67 at h
 split at h
 case h_3=>cases h
 all_goals
  injection h with h
  injection h with e1 e2
  subst e1; subst e2
 ·obtain ⟨⟨bs,rfl,hb⟩,h0,h1,h2⟩:=hp
  exact ⟨_,_,_,_,_,_,tD_ok m,itbl_nil,J0_ok,p67a m _ bs _ _ _ _ _ hb h0 h1 h2⟩
 ·obtain ⟨⟨bs,rfl,hb⟩,h0,h1,h2,h4⟩:=hp
  exact ⟨_,_,_,_,_,_,tD_ok m,itbl_nil,J0_ok,p67b m _ bs _ _ _ _ _ _ hb h0 h1 h2 h4⟩
theorem o115 (m:Int):PSpecOk PQ (GQ m) 115 s115:=pspec_of mixedQ fun args S p os h hp=>by
 unfold s115 at h
 split at h
 case h_3=>cases h
 all_goals
  injection h with h
  injection h with e1 e2
  subst e1; subst e2
  obtain ⟨⟨bs,rfl,hb⟩,h0,h1,h2⟩:=hp
 ·exact ⟨_,_,_,_,_,_,tD_ok m,itbl_nil,J0_ok,p115a m _ bs _ _ _ hb h0 h1 h2⟩
 ·exact ⟨_,_,_,_,_,_,tD_ok m,itbl_nil,J0_ok,p115 m _ bs _ _ _ _ hb h0 h1 h2⟩
theorem o66 (m:Int):PSpecOk PQ (GQ m) 66 s66:=pspec_of mixedQ fun args S p os h hp=>by
 unfold s66 at h
 split at h
 case h_3=>cases h
 all_goals
  injection h with h
  injection h with e1 e2
  subst e1; subst e2
  obtain ⟨⟨bs,rfl,hb⟩,hk0,hk,h0,h1,h2⟩:=hp
 ·exact ⟨_,_,_,_,_,_,tD_ok m,itbl_nil,ptbl_cons (o115 m) (ptbl_nil J0_ok),p66a m _ bs _ _ _ hb _ hk h0 h1 h2⟩
 ·exact ⟨_,_,_,_,_,_,tD_ok m,itbl_nil,ptbl_cons (o115 m) (ptbl_nil J0_ok),p66 m _ bs _ _ _ _ hb _ hk h0 h1 h2⟩
abbrev w28c24 (bs:List UInt8) (y:R28):List AV:=[AV.sl ((1:Nat)) (bytesL bs) Own.no,AV.int IntKind.i64 y.a]
abbrev w28c6 (y:R28) (bs:List UInt8):St:={ boxes:=[some [AV.str y.r.entity,AV.sl ((1:Nat)) (strsL y.r.feats) (Own.tok ((0:Nat))),AV.sl ((0:Nat)) [] Own.nil,AV.int IntKind.i64 (0:Int),AV.int IntKind.i64 (0:Int)],some [AV.int IntKind.i64 (0:Int)],some [AV.int IntKind.i64 (0:Int)],some (w28c24 bs y)],live:=[(y.r.feats.length,(9:Nat))] }
abbrev w28c1 (x:R28) (bs:List UInt8) (a:Int):Prop:=(((1:Nat) = (1:Nat)∨strsL x.r.feats = [])∧((strsL x.r.feats).length + (1:Nat)) * (17:Nat)≤(70368744177664:Nat)∧x.r.feats.length = (strsL x.r.feats).length∧((∃ (y:R28),ValsAre [AV.ptr ((0:Nat)) ((0:Nat)),AV.ptr ((1:Nat)) ((0:Nat)),AV.ptr ((2:Nat)) ((0:Nat)),AV.ptr ((3:Nat)) ((0:Nat)),AV.int IntKind.i64 (↑x.n:Int),AV.int IntKind.i64 (↑x.r.feats.length:Int)] [AV.ptr ((0:Nat)) ((0:Nat)),AV.ptr ((1:Nat)) ((0:Nat)),AV.ptr ((2:Nat)) ((0:Nat)),AV.ptr ((3:Nat)) ((0:Nat)),AV.int IntKind.i64 (↑y.n:Int),AV.int IntKind.i64 ((↑y.r.feats.length:Int) - (1:Int))]∧StIs { boxes:=[some [AV.str x.r.entity,AV.sl ((1:Nat)) (strsL x.r.feats ++ [AV.str (keptTx (bytesL bs) x.a).fst]) (Own.tok ((0:Nat))),AV.sl ((0:Nat)) [] Own.nil,AV.int IntKind.i64 (0:Int),AV.int IntKind.i64 (0:Int)],some [AV.int IntKind.i64 (0:Int)],some [AV.int IntKind.i64 (0:Int)],some [AV.sl ((1:Nat)) (bytesL bs) Own.no,AV.int IntKind.i64 (keptTx (bytesL bs) x.a).snd.fst]],live:=[((strsL x.r.feats).length + (1:Nat),(9:Nat))] } (w28c6 y bs)∧(readRq bs a = rFs bs (y.n - y.r.feats.length) y.r y.a∧(1:Nat)≤y.r.feats.length∧y.r.feats.length≤y.n∧y.n≤(8:Nat)∧y.r.labels = []∧y.r.seed = (0:Int)∧y.r.permille = (0:Int))∧ValsAre [AV.int IntKind.i64 (↑x.n:Int),AV.int IntKind.i64 (↑x.r.feats.length:Int)] [AV.int IntKind.i64 (↑y.n:Int),AV.int IntKind.i64 ((↑y.r.feats.length:Int) - (1:Int))])∧True)∧True)∧True
abbrev w28c3:List AV:=[AV.str [],AV.sl ((0:Nat)) [] Own.nil,AV.sl ((0:Nat)) [] Own.nil,AV.int IntKind.i64 (0:Int),AV.int IntKind.i64 (0:Int)]
abbrev w28c4 (x:R28):List AV:=[AV.str x.r.entity,AV.sl ((1:Nat)) (strsL x.r.feats) (Own.tok ((0:Nat))),AV.sl ((0:Nat)) [] Own.nil,AV.int IntKind.i64 (0:Int),AV.int IntKind.i64 (0:Int)]
abbrev w28c15 (x:R28) (r:AV):Prop:=true = false→RetLax (AV.tup [AV.agg (w28c4 x),AV.int IntKind.i64 (0:Int),AV.int IntKind.i64 (0:Int)]) (r,[])
abbrev w28c2 (bs:List UInt8) (x:R28) (r:AV):Prop:=((keptTx (bytesL bs) x.a).snd.snd = (0:Int)→False)→Option.all litOk (some (Value.iface ((88:Nat)) (Value.agg #[Value.int IntKind.i64 (0:Int),Value.int IntKind.i64 (keptTx (bytesL bs) x.a).snd.snd]))) = true∧(true = true→RetLax (AV.tup [AV.agg w28c3,AV.int IntKind.i64 (0:Int),AV.int IntKind.i64 (keptTx (bytesL bs) x.a).snd.snd]) (r,[]))∧(w28c15 x r)
abbrev w28c5 (x:R28):List AV:=[AV.str x.r.entity,AV.sl ((1:Nat)) (strsL x.r.feats) (Own.tok ((0:Nat))),AV.sl ((3:Nat)) (lbsL x.r.labels) (Own.tok ((1:Nat))),AV.int IntKind.i64 (0:Int),AV.int IntKind.i64 (0:Int)]
abbrev w28c7 (y:R28) (bs:List UInt8):St:={ boxes:=[some [AV.str y.r.entity,AV.sl ((1:Nat)) (strsL y.r.feats) (Own.tok ((0:Nat))),AV.sl ((3:Nat)) (lbsL y.r.labels) (Own.tok ((1:Nat))),AV.int IntKind.i64 (0:Int),AV.int IntKind.i64 (0:Int)],some [AV.int IntKind.i64 (0:Int)],some [AV.int IntKind.i64 (0:Int)],some (w28c24 bs y)],live:=[(y.r.feats.length,(9:Nat)),(y.r.labels.length,(65:Nat))] }
abbrev w28c8:List AV:=[AV.ptr ((0:Nat)) ((0:Nat)),AV.ptr ((1:Nat)) ((0:Nat)),AV.ptr ((2:Nat)) ((0:Nat)),AV.ptr ((3:Nat)) ((0:Nat))]
abbrev w28c9 (bs:List UInt8) (x:R28):=keptIn (bytesL bs) (keptTx (bytesL bs) x.a).snd.fst
abbrev w28c16 (bs:List UInt8) (x:R28):Prop:=BytL (bytesL bs)∧(w28c4 x).all (AV.p1 (4:Nat)) = true∧true = true∧true = true
abbrev w28c10 (bs:List UInt8) (x:R28) (a:Int) (r:AV):Prop:=(((w28c16 bs x)∧((keptTx (bytesL bs) x.a).snd.snd = (0:Int)→(w28c1 x bs a)∧True)∧(w28c2 bs x r)∧True)∧True)∧((w28c16 bs x)∧((keptTx (bytesL bs) x.a).snd.snd = (0:Int)→((w28c1 x bs a)∧True)∧((w28c1 x bs a)∧True)∧True)∧(w28c2 bs x r)∧True)∧True
abbrev w28c11 (x:R28) (r:AV):Prop:=true = false→RetLax (AV.tup [AV.agg (w28c5 x),AV.int IntKind.i64 (0:Int),AV.int IntKind.i64 (0:Int)]) (r,[])
abbrev w28c12 (x:R28):List AV:=[AV.str x.r.entity,AV.sl ((0:Nat)) [] Own.nil,AV.sl ((0:Nat)) [] Own.nil,AV.int IntKind.i64 (0:Int),AV.int IntKind.i64 (0:Int)]
abbrev w28c13 (bs:List UInt8) (x:R28):=keptIn (bytesL bs) (keptIn (bytesL bs) x.a).snd.fst
abbrev w28c14 (r:AV):Prop:=true = true→RetLax (AV.tup [AV.agg w28c3,AV.int IntKind.i64 (0:Int),AV.int IntKind.i64 (240:Int)]) (r,[])
abbrev w28c17 (y:R28):List AV:=[AV.ptr ((0:Nat)) ((0:Nat)),AV.ptr ((1:Nat)) ((0:Nat)),AV.ptr ((2:Nat)) ((0:Nat)),AV.ptr ((3:Nat)) ((0:Nat)),AV.int IntKind.i64 (↑y.n:Int),AV.int IntKind.i64 (↑y.r.labels.length:Int)]
abbrev w28c18 (y:R28):List AV:=[AV.ptr ((0:Nat)) ((0:Nat)),AV.ptr ((1:Nat)) ((0:Nat)),AV.ptr ((2:Nat)) ((0:Nat)),AV.ptr ((3:Nat)) ((0:Nat)),AV.int IntKind.i64 (↑y.n:Int),AV.int IntKind.i64 (↑y.r.feats.length:Int)]
abbrev w28c19 (x:R28) (bs:List UInt8):List AV:=[AV.str x.r.entity,AV.sl ((1:Nat)) (strsL x.r.feats) (Own.tok ((0:Nat))),AV.sl ((3:Nat)) (lbsL x.r.labels) (Own.tok ((1:Nat))),AV.int IntKind.i64 (keptIn (bytesL bs) x.a).fst,AV.int IntKind.i64 (w28c13 bs x).fst]
abbrev w28c20 (x:R28) (bs:List UInt8):List AV:=[AV.str x.r.entity,AV.sl ((1:Nat)) (strsL x.r.feats) (Own.tok ((0:Nat))),AV.sl ((3:Nat)) (lbsL x.r.labels) (Own.tok ((1:Nat))),AV.int IntKind.i64 (keptIn (bytesL bs) x.a).fst,AV.int IntKind.i64 (0:Int)]
abbrev w28c21 (y:R28):List AV:=[AV.ptr ((0:Nat)) ((0:Nat)),AV.ptr ((1:Nat)) ((0:Nat)),AV.ptr ((2:Nat)) ((0:Nat)),AV.ptr ((3:Nat)) ((0:Nat)),AV.int IntKind.i64 (↑y.n:Int),AV.int IntKind.i64 (0:Int)]
abbrev w28c22 (x:R28):List AV:=[AV.ptr ((0:Nat)) ((0:Nat)),AV.ptr ((1:Nat)) ((0:Nat)),AV.ptr ((2:Nat)) ((0:Nat)),AV.ptr ((3:Nat)) ((0:Nat)),AV.int IntKind.i64 (↑x.n:Int),AV.int IntKind.i64 (0:Int)]
abbrev w28c23 (bs:List UInt8) (x:R28):List AV:=[AV.ptr ((0:Nat)) ((0:Nat)),AV.ptr ((1:Nat)) ((0:Nat)),AV.ptr ((2:Nat)) ((0:Nat)),AV.ptr ((3:Nat)) ((0:Nat)),AV.int IntKind.i64 (keptUi (bytesL bs) x.a).fst,AV.int IntKind.i64 (0:Int)]
abbrev w28c25 (bs:List UInt8) (a:Int) (y:R28):Prop:=readRq bs a = rLs bs (y.n - y.r.labels.length) y.r y.a∧y.r.labels.length≤y.n∧y.n≤(256:Nat)∧y.r.feats.length≤(8:Nat)∧y.r.seed = (0:Int)∧y.r.permille = (0:Int)
abbrev w28c26 (bs:List UInt8) (x:R28):List AV:=[AV.sl ((1:Nat)) (bytesL bs) Own.no,AV.int IntKind.i64 x.a]
theorem w28 (m:Int) (a:Int) (bs:List UInt8) (r:AV):(tlaxW PQ idMk (GQ m) XD (tbl t28) (itbl []) fsD J28 (g28 bs a) 28 [bytesA bs,.int .i64 a] (r,[])) =
(((BytL (bytesL bs)∧true = true∧true = true∧true = true)∧((keptTx (bytesL bs) a).snd.snd = (0:Int)→∃ (y:R28),ValsAre w28c8 w28c8∧StIs { boxes:=[some [AV.str (keptTx (bytesL bs) a).fst,AV.sl ((0:Nat)) [] Own.nil,AV.sl ((0:Nat)) [] Own.nil,AV.int IntKind.i64 (0:Int),AV.int IntKind.i64 (0:Int)],some [AV.int IntKind.i64 (0:Int)],some [AV.int IntKind.i64 (0:Int)],some [AV.sl ((1:Nat)) (bytesL bs) Own.no,AV.int IntKind.i64 (keptTx (bytesL bs) a).snd.fst]],live:=[] } { boxes:=[some [AV.str y.r.entity,AV.sl ((0:Nat)) [] Own.nil,AV.sl ((0:Nat)) [] Own.nil,AV.int IntKind.i64 (0:Int),AV.int IntKind.i64 (0:Int)],some [AV.int IntKind.i64 (0:Int)],some [AV.int IntKind.i64 (0:Int)],some (w28c24 bs y)],live:=[] }∧(readRq bs a = r4 bs y.r y.a∧y.r.feats = []∧y.r.labels = []∧y.r.seed = (0:Int)∧y.r.permille = (0:Int))∧True)∧(((keptTx (bytesL bs) a).snd.snd = (0:Int)→False)→Option.all litOk (some (Value.iface ((88:Nat)) (Value.agg #[Value.int IntKind.i64 (0:Int),Value.int IntKind.i64 (keptTx (bytesL bs) a).snd.snd]))) = true∧(true = true→RetLax (AV.tup [AV.agg w28c3,AV.int IntKind.i64 (0:Int),AV.int IntKind.i64 (keptTx (bytesL bs) a).snd.snd]) (r,[]))∧(true = false→RetLax (AV.tup [AV.agg w28c3,AV.int IntKind.i64 (0:Int),AV.int IntKind.i64 (0:Int)]) (r,[])))∧True)∧∀ (x:R28),readRq bs a = r4 bs x.r x.a∧x.r.feats = []∧x.r.labels = []∧x.r.seed = (0:Int)∧x.r.permille = (0:Int)→True→(((BytL (bytesL bs)∧(0:Int)≤(8:Int)∧(8:Int)≤(1000:Int)∧(w28c12 x).all (AV.p1 (4:Nat)) = true∧true = true∧true = true)∧((keptUi (bytesL bs) x.a).snd.snd = (0:Int)∧(keptUi (bytesL bs) x.a).fst≤(8:Int)→∃ (y:R28),ValsAre (w28c23 bs x) (w28c21 y)∧StIs { boxes:=[some [AV.str x.r.entity,AV.sl ((1:Nat)) [] (Own.tok (0:Nat)),AV.sl ((0:Nat)) [] Own.nil,AV.int IntKind.i64 (0:Int),AV.int IntKind.i64 (0:Int)],some [AV.int IntKind.i64 (0:Int)],some [AV.int IntKind.i64 (0:Int)],some [AV.sl ((1:Nat)) (bytesL bs) Own.no,AV.int IntKind.i64 (keptUi (bytesL bs) x.a).snd.fst]],live:=[((0:Nat),(9:Nat))] } { boxes:=[some [AV.str y.r.entity,AV.sl ((1:Nat)) [] (Own.tok ((0:Nat))),AV.sl ((0:Nat)) [] Own.nil,AV.int IntKind.i64 (0:Int),AV.int IntKind.i64 (0:Int)],some [AV.int IntKind.i64 (0:Int)],some [AV.int IntKind.i64 (0:Int)],some (w28c24 bs y)],live:=[((0:Nat),(9:Nat))] }∧(readRq bs a = rFs bs y.n y.r y.a∧y.n≤(8:Nat)∧y.r.feats = []∧y.r.labels = []∧y.r.seed = (0:Int)∧y.r.permille = (0:Int))∧True)∧(((keptUi (bytesL bs) x.a).snd.snd = (0:Int)→False)→Option.all litOk (some (Value.iface ((88:Nat)) (Value.agg #[Value.int IntKind.i64 (0:Int),Value.int IntKind.i64 (keptUi (bytesL bs) x.a).snd.snd]))) = true∧(true = true→RetLax (AV.tup [AV.agg w28c3,AV.int IntKind.i64 (0:Int),AV.int IntKind.i64 (keptUi (bytesL bs) x.a).snd.snd]) (r,[]))∧(true = false→RetLax (AV.tup [AV.agg (w28c12 x),AV.int IntKind.i64 (0:Int),AV.int IntKind.i64 (0:Int)]) (r,[])))∧((keptUi (bytesL bs) x.a).snd.snd = (0:Int)∧(8:Int) < (keptUi (bytesL bs) x.a).fst→true = true∧(w28c14 r)∧(true = false→RetLax (AV.tup [AV.agg (w28c12 x),AV.int IntKind.i64 (0:Int),AV.int IntKind.i64 (0:Int)]) (r,[])))∧True)∧∀ (x:R28),readRq bs a = rFs bs x.n x.r x.a∧x.n≤(8:Nat)∧x.r.feats = []∧x.r.labels = []∧x.r.seed = (0:Int)∧x.r.permille = (0:Int)→True→(∃ (y:R28),ValsAre (w28c22 x) (w28c18 y)∧StIs { boxes:=[some [AV.str x.r.entity,AV.sl ((1:Nat)) [] (Own.tok ((0:Nat))),AV.sl ((0:Nat)) [] Own.nil,AV.int IntKind.i64 (0:Int),AV.int IntKind.i64 (0:Int)],some [AV.int IntKind.i64 (0:Int)],some [AV.int IntKind.i64 (0:Int)],some (w28c26 bs x)],live:=[((0:Nat),(9:Nat))] } (w28c6 y bs)∧(readRq bs a = rFs bs (y.n - y.r.feats.length) y.r y.a∧y.r.feats.length≤y.n∧y.n≤(8:Nat)∧y.r.labels = []∧y.r.seed = (0:Int)∧y.r.permille = (0:Int))∧True)∧∀ (x:R28),readRq bs a = rFs bs (x.n - x.r.feats.length) x.r x.a∧x.r.feats.length≤x.n∧x.n≤(8:Nat)∧x.r.labels = []∧x.r.seed = (0:Int)∧x.r.permille = (0:Int)→(decide ((↑x.r.feats.length:Int) < (↑x.n:Int)) = true→((((((w28c16 bs x)∧((keptTx (bytesL bs) x.a).snd.snd = (0:Int)→(w28c1 x bs a)∧True)∧(w28c2 bs x r)∧True)∧True)∧True)∧(w28c10 bs x a r)∧True)∧((w28c10 bs x a r)∧((w28c16 bs x)∧((keptTx (bytesL bs) x.a).snd.snd = (0:Int)→(((w28c1 x bs a)∧True)∧((w28c1 x bs a)∧True)∧True)∧(((w28c1 x bs a)∧True)∧True)∧True)∧(w28c2 bs x r)∧True)∧True)∧True)∧∀ (x_1:R28),readRq bs a = rFs bs (x_1.n - x_1.r.feats.length) x_1.r x_1.a∧(1:Nat)≤x_1.r.feats.length∧x_1.r.feats.length≤x_1.n∧x_1.n≤(8:Nat)∧x_1.r.labels = []∧x_1.r.seed = (0:Int)∧x_1.r.permille = (0:Int)→ValsAre [AV.int IntKind.i64 (↑x.n:Int),AV.int IntKind.i64 (↑x.r.feats.length:Int)] [AV.int IntKind.i64 (↑x_1.n:Int),AV.int IntKind.i64 ((↑x_1.r.feats.length:Int) - (1:Int))]→∃ (y:R28),ValsAre [AV.ptr ((0:Nat)) ((0:Nat)),AV.ptr ((1:Nat)) ((0:Nat)),AV.ptr ((2:Nat)) ((0:Nat)),AV.ptr ((3:Nat)) ((0:Nat)),AV.int IntKind.i64 (↑x_1.n:Int),AV.int IntKind.i64 (IntKind.i64.wrap ((↑x_1.r.feats.length:Int) - (1:Int) + (1:Int)))] (w28c18 y)∧StIs { boxes:=[some [AV.str x_1.r.entity,AV.sl ((1:Nat)) (strsL x_1.r.feats) (Own.tok ((0:Nat))),AV.sl ((0:Nat)) [] Own.nil,AV.int IntKind.i64 (0:Int),AV.int IntKind.i64 (0:Int)],some [AV.int IntKind.i64 (0:Int)],some [AV.int IntKind.i64 (0:Int)],some [AV.sl ((1:Nat)) (bytesL bs) Own.no,AV.int IntKind.i64 x_1.a]],live:=[(x_1.r.feats.length,(9:Nat))] } (w28c6 y bs)∧(readRq bs a = rFs bs (y.n - y.r.feats.length) y.r y.a∧y.r.feats.length≤y.n∧y.n≤(8:Nat)∧y.r.labels = []∧y.r.seed = (0:Int)∧y.r.permille = (0:Int))∧y.n - y.r.feats.length < x.n - x.r.feats.length)∧(decide ((↑x.r.feats.length:Int) < (↑x.n:Int)) = false→∃ (y:R28),ValsAre w28c8 w28c8∧StIs { boxes:=[some (w28c4 x),some [AV.int IntKind.i64 (0:Int)],some [AV.int IntKind.i64 (0:Int)],some (w28c26 bs x)],live:=[(x.r.feats.length,(9:Nat))] } (w28c6 y bs)∧(readRq bs a = r8 bs y.r y.a∧y.r.feats.length≤(8:Nat)∧y.r.labels = []∧y.r.seed = (0:Int)∧y.r.permille = (0:Int))∧True))∧∀ (x:R28),readRq bs a = r8 bs x.r x.a∧x.r.feats.length≤(8:Nat)∧x.r.labels = []∧x.r.seed = (0:Int)∧x.r.permille = (0:Int)→True→(((BytL (bytesL bs)∧(0:Int)≤(256:Int)∧(256:Int)≤(1000:Int)∧(w28c4 x).all (AV.p1 (4:Nat)) = true∧true = true∧true = true)∧((keptUi (bytesL bs) x.a).snd.snd = (0:Int)∧(keptUi (bytesL bs) x.a).fst≤(256:Int)→∃ (y:R28),ValsAre (w28c23 bs x) (w28c21 y)∧StIs { boxes:=[some [AV.str x.r.entity,AV.sl ((1:Nat)) (strsL x.r.feats) (Own.tok ((0:Nat))),AV.sl ((3:Nat)) [] (Own.tok (1:Nat)),AV.int IntKind.i64 (0:Int),AV.int IntKind.i64 (0:Int)],some [AV.int IntKind.i64 (0:Int)],some [AV.int IntKind.i64 (0:Int)],some [AV.sl ((1:Nat)) (bytesL bs) Own.no,AV.int IntKind.i64 (keptUi (bytesL bs) x.a).snd.fst]],live:=[(x.r.feats.length,(9:Nat)),((0:Nat),(65:Nat))] } { boxes:=[some [AV.str y.r.entity,AV.sl ((1:Nat)) (strsL y.r.feats) (Own.tok ((0:Nat))),AV.sl ((3:Nat)) [] (Own.tok ((1:Nat))),AV.int IntKind.i64 (0:Int),AV.int IntKind.i64 (0:Int)],some [AV.int IntKind.i64 (0:Int)],some [AV.int IntKind.i64 (0:Int)],some (w28c24 bs y)],live:=[(y.r.feats.length,(9:Nat)),((0:Nat),(65:Nat))] }∧(readRq bs a = rLs bs y.n y.r y.a∧y.n≤(256:Nat)∧y.r.feats.length≤(8:Nat)∧y.r.labels = []∧y.r.seed = (0:Int)∧y.r.permille = (0:Int))∧True)∧(((keptUi (bytesL bs) x.a).snd.snd = (0:Int)→False)→Option.all litOk (some (Value.iface ((88:Nat)) (Value.agg #[Value.int IntKind.i64 (0:Int),Value.int IntKind.i64 (keptUi (bytesL bs) x.a).snd.snd]))) = true∧(true = true→RetLax (AV.tup [AV.agg w28c3,AV.int IntKind.i64 (0:Int),AV.int IntKind.i64 (keptUi (bytesL bs) x.a).snd.snd]) (r,[]))∧(w28c15 x r))∧((keptUi (bytesL bs) x.a).snd.snd = (0:Int)∧(256:Int) < (keptUi (bytesL bs) x.a).fst→true = true∧(w28c14 r)∧(w28c15 x r))∧True)∧∀ (x:R28),readRq bs a = rLs bs x.n x.r x.a∧x.n≤(256:Nat)∧x.r.feats.length≤(8:Nat)∧x.r.labels = []∧x.r.seed = (0:Int)∧x.r.permille = (0:Int)→True→(∃ (y:R28),ValsAre (w28c22 x) (w28c17 y)∧StIs { boxes:=[some [AV.str x.r.entity,AV.sl ((1:Nat)) (strsL x.r.feats) (Own.tok ((0:Nat))),AV.sl ((3:Nat)) [] (Own.tok ((1:Nat))),AV.int IntKind.i64 (0:Int),AV.int IntKind.i64 (0:Int)],some [AV.int IntKind.i64 (0:Int)],some [AV.int IntKind.i64 (0:Int)],some (w28c26 bs x)],live:=[(x.r.feats.length,(9:Nat)),((0:Nat),(65:Nat))] } (w28c7 y bs)∧(w28c25 bs a y)∧True)∧∀ (x:R28),readRq bs a = rLs bs (x.n - x.r.labels.length) x.r x.a∧x.r.labels.length≤x.n∧x.n≤(256:Nat)∧x.r.feats.length≤(8:Nat)∧x.r.seed = (0:Int)∧x.r.permille = (0:Int)→(decide ((↑x.r.labels.length:Int) < (↑x.n:Int)) = true→(BytL (bytesL bs)∧(w28c5 x).all (AV.p1 (5:Nat)) = true∧true = true∧true = true)∧((keptTx (bytesL bs) x.a).snd.snd = (0:Int)→(BytL (bytesL bs)∧(w28c5 x).all (AV.p1 (5:Nat)) = true∧true = true∧true = true∧[AV.str (keptTx (bytesL bs) x.a).fst,AV.int IntKind.i64 (0:Int),AV.int IntKind.i64 (0:Int)].all (AV.p1 (5:Nat)) = true)∧((w28c9 bs x).snd.snd = (0:Int)→(BytL (bytesL bs)∧(w28c5 x).all (AV.p1 (5:Nat)) = true∧true = true∧true = true∧[AV.str (keptTx (bytesL bs) x.a).fst,AV.int IntKind.i64 (w28c9 bs x).fst,AV.int IntKind.i64 (0:Int)].all (AV.p1 (5:Nat)) = true)∧((keptIn (bytesL bs) (w28c9 bs x).snd.fst).snd.snd = (0:Int)→((3:Nat) = (3:Nat)∨lbsL x.r.labels = [])∧((lbsL x.r.labels).length + (1:Nat)) * (33:Nat)≤(70368744177664:Nat)∧x.r.labels.length = (lbsL x.r.labels).length∧∃ (y:R28),ValsAre [AV.ptr ((0:Nat)) ((0:Nat)),AV.ptr ((1:Nat)) ((0:Nat)),AV.ptr ((2:Nat)) ((0:Nat)),AV.ptr ((3:Nat)) ((0:Nat)),AV.int IntKind.i64 (↑x.n:Int),AV.int IntKind.i64 (IntKind.i64.wrap ((↑x.r.labels.length:Int) + (1:Int)))] (w28c17 y)∧StIs { boxes:=[some [AV.str x.r.entity,AV.sl ((1:Nat)) (strsL x.r.feats) (Own.tok ((0:Nat))),AV.sl ((3:Nat)) (lbsL x.r.labels ++ [AV.agg [AV.str (keptTx (bytesL bs) x.a).fst,AV.int IntKind.i64 (w28c9 bs x).fst,AV.int IntKind.i64 (keptIn (bytesL bs) (w28c9 bs x).snd.fst).fst]]) (Own.tok ((1:Nat))),AV.int IntKind.i64 (0:Int),AV.int IntKind.i64 (0:Int)],some [AV.int IntKind.i64 (0:Int)],some [AV.int IntKind.i64 (0:Int)],some [AV.sl ((1:Nat)) (bytesL bs) Own.no,AV.int IntKind.i64 (keptIn (bytesL bs) (w28c9 bs x).snd.fst).snd.fst]],live:=[(x.r.feats.length,(9:Nat)),((lbsL x.r.labels).length + (1:Nat),(65:Nat))] } (w28c7 y bs)∧(w28c25 bs a y)∧y.n - y.r.labels.length < x.n - x.r.labels.length)∧(((keptIn (bytesL bs) (w28c9 bs x).snd.fst).snd.snd = (0:Int)→False)→Option.all litOk (some (Value.iface ((88:Nat)) (Value.agg #[Value.int IntKind.i64 (0:Int),Value.int IntKind.i64 (keptIn (bytesL bs) (w28c9 bs x).snd.fst).snd.snd]))) = true∧(true = true→RetLax (AV.tup [AV.agg w28c3,AV.int IntKind.i64 (0:Int),AV.int IntKind.i64 (keptIn (bytesL bs) (w28c9 bs x).snd.fst).snd.snd]) (r,[]))∧(w28c11 x r))∧True)∧(((w28c9 bs x).snd.snd = (0:Int)→False)→Option.all litOk (some (Value.iface ((88:Nat)) (Value.agg #[Value.int IntKind.i64 (0:Int),Value.int IntKind.i64 (w28c9 bs x).snd.snd]))) = true∧(true = true→RetLax (AV.tup [AV.agg w28c3,AV.int IntKind.i64 (0:Int),AV.int IntKind.i64 (w28c9 bs x).snd.snd]) (r,[]))∧(w28c11 x r))∧True)∧(((keptTx (bytesL bs) x.a).snd.snd = (0:Int)→False)→Option.all litOk (some (Value.iface ((88:Nat)) (Value.agg #[Value.int IntKind.i64 (0:Int),Value.int IntKind.i64 (keptTx (bytesL bs) x.a).snd.snd]))) = true∧(true = true→RetLax (AV.tup [AV.agg w28c3,AV.int IntKind.i64 (0:Int),AV.int IntKind.i64 (keptTx (bytesL bs) x.a).snd.snd]) (r,[]))∧(w28c11 x r))∧True)∧(decide ((↑x.r.labels.length:Int) < (↑x.n:Int)) = false→∃ (y:R28),ValsAre w28c8 w28c8∧StIs { boxes:=[some (w28c5 x),some [AV.int IntKind.i64 (0:Int)],some [AV.int IntKind.i64 (0:Int)],some (w28c26 bs x)],live:=[(x.r.feats.length,(9:Nat)),(x.r.labels.length,(65:Nat))] } (w28c7 y bs)∧(readRq bs a = r15 bs y.r y.a∧y.r.seed = (0:Int)∧y.r.permille = (0:Int))∧True))∧∀ (x:R28),readRq bs a = r15 bs x.r x.a∧x.r.seed = (0:Int)∧x.r.permille = (0:Int)→True→(BytL (bytesL bs)∧(w28c5 x).all (AV.p1 (4:Nat)) = true∧true = true∧true = true)∧((keptIn (bytesL bs) x.a).snd.snd = (0:Int)→(BytL (bytesL bs)∧(w28c20 x bs).all (AV.p1 (4:Nat)) = true∧true = true∧true = true)∧((w28c13 bs x).snd.snd = (0:Int)→∃ (b:Bool),CallIs (tbl [((46:Nat),s46)] ((46:Nat)) [AV.agg [AV.str x.r.entity,AV.sl ((1:Nat)) (strsL x.r.feats) Own.no,AV.sl ((3:Nat)) (lbsL x.r.labels) Own.no,AV.int IntKind.i64 (keptIn (bytesL bs) x.a).fst,AV.int IntKind.i64 (w28c13 bs x).fst]]) (AV.bool b) []∧(b = true→true = true∧(false = true→RetLax (AV.tup [AV.agg w28c3,AV.int IntKind.i64 (0:Int),AV.int IntKind.i64 (0:Int)]) (r,[]))∧(false = false→RetLax (AV.tup [AV.agg (w28c19 x bs),AV.int IntKind.i64 (w28c13 bs x).snd.fst,AV.int IntKind.i64 (0:Int)]) (r,[])))∧(b = false→true = true∧(w28c14 r)∧(true = false→RetLax (AV.tup [AV.agg (w28c19 x bs),AV.int IntKind.i64 (0:Int),AV.int IntKind.i64 (0:Int)]) (r,[]))))∧(((w28c13 bs x).snd.snd = (0:Int)→False)→Option.all litOk (some (Value.iface ((88:Nat)) (Value.agg #[Value.int IntKind.i64 (0:Int),Value.int IntKind.i64 (w28c13 bs x).snd.snd]))) = true∧(true = true→RetLax (AV.tup [AV.agg w28c3,AV.int IntKind.i64 (0:Int),AV.int IntKind.i64 (w28c13 bs x).snd.snd]) (r,[]))∧(true = false→RetLax (AV.tup [AV.agg (w28c20 x bs),AV.int IntKind.i64 (0:Int),AV.int IntKind.i64 (0:Int)]) (r,[])))∧True)∧(((keptIn (bytesL bs) x.a).snd.snd = (0:Int)→False)→Option.all litOk (some (Value.iface ((88:Nat)) (Value.agg #[Value.int IntKind.i64 (0:Int),Value.int IntKind.i64 (keptIn (bytesL bs) x.a).snd.snd]))) = true∧(true = true→RetLax (AV.tup [AV.agg w28c3,AV.int IntKind.i64 (0:Int),AV.int IntKind.i64 (keptIn (bytesL bs) x.a).snd.snd]) (r,[]))∧(w28c11 x r))∧True):=by kernel_rfl
theorem bytL_ok {bs:List UInt8} (hb:strOk bs):BytL (bytesL bs):=⟨⟨bs,rfl,hb⟩⟩
theorem rdT_ok {bs:List UInt8} {a:Int} (h:(textA bs a).2.2 = 0):rdT bs a = .ok ((textA bs a).1,(textA bs a).2.1):=if_pos h
theorem rdT_no {bs:List UInt8} {a:Int} (h:¬ (textA bs a).2.2 = 0):rdT bs a = .error (textA bs a).2.2:=if_neg h
theorem rdI_ok {bs:List UInt8} {a:Int} (h:(sintA bs a).2.2 = 0):rdI bs a = .ok ((sintA bs a).1,(sintA bs a).2.1):=if_pos h
theorem rdI_no {bs:List UInt8} {a:Int} (h:¬ (sintA bs a).2.2 = 0):rdI bs a = .error (sintA bs a).2.2:=if_neg h
theorem rdN_ok {bs:List UInt8} {a k:Int} (h:(uintA bs a).2.2 = 0∧(uintA bs a).1≤k):rdN k bs a = .ok ((uintA bs a).1.toNat,(uintA bs a).2.1):=by
 unfold rdN; rw [if_pos h.1,if_neg (by omega)]
theorem rdN_no {bs:List UInt8} {a k:Int} (h:¬ (uintA bs a).2.2 = 0):rdN k bs a = .error (uintA bs a).2.2:=if_neg h
theorem rdN_big {bs:List UInt8} {a k:Int} (h:(uintA bs a).2.2 = 0∧k < (uintA bs a).1):rdN k bs a = .error 240:=by
 unfold rdN; rw [if_pos h.1,if_pos h.2]
theorem thn_thn {α β γ:Type} {x:Except Int α} {f:α→Except Int β} {g:β→Except Int γ}:thn (thn x f) g = thn x fun y=>thn (f y) g:=by cases x <;> rfl
theorem rFs_step {bs:List UInt8} {n:Nat} {r:Rq} {a:Int}:rFs bs (n + 1) r a = thn (rdT bs a) fun x=>rFs bs n { r with feats:=r.feats ++ [x.1] } x.2:=thn_thn
theorem rLs_step {bs:List UInt8} {n:Nat} {r:Rq} {a:Int}:rLs bs (n + 1) r a = thn (rdLb bs a) fun x=>rLs bs n { r with labels:=r.labels ++ [x.1] } x.2:=thn_thn
theorem sub_step {n k:Nat} (h:k < n):n - k = n - (k + 1) + 1:=by omega
theorem lax_r' (r:Rq) (a:Int):RetLax (.tup [.agg [.str r.entity,.sl 1 (strsL r.feats) (.tok 0),.sl 3 (lbsL r.labels) (.tok 1),.int .i64 r.seed,.int .i64 r.permille],.int .i64 a,.int .i64 0]) (.tup [rqA r,.int .i64 a,.int .i64 0],[]):=by
 refine ⟨⟨?_,rfl,rfl,trivial⟩,by rfl,rfl⟩
 exact ⟨rfl,⟨rfl,rfl,.inl rfl⟩,⟨rfl,rfl,.inl rfl⟩,rfl,rfl,trivial⟩
theorem p28 (m:Int) (a:Int) (bs:List UInt8) (hb:strOk bs):TLaxOk PQ (GQ m) XD (tbl t28) (itbl []) fsD J28 (g28 bs a) 28 [bytesA bs,.int .i64 a] (resR (readRq bs a),[]):=by
 constructor
 rw [w28]; unfold w28c26 w28c25 w28c23 w28c22 w28c21 w28c20 w28c19 w28c18 w28c17 w28c14 w28c13 w28c12 w28c11 w28c10 w28c16 w28c9 w28c8 w28c7 w28c5 w28c2 w28c15 w28c4 w28c3 w28c1 w28c6 w28c24
 simp only [valsAre_iff,stIs_iff,true_and,and_true,forall_const,Bool.true_eq_false,Bool.false_eq_true,false_implies,true_or,and_self,bytL_ok hb,keptTx_ok,keptUi_ok,keptIn_ok]
 have bad:∀ e,readRq bs a = .error e→RetLax (.tup [.agg [.str [],.sl 0 [] .nil,.sl 0 [] .nil,.int .i64 0,.int .i64 0],.int .i64 0,.int .i64 e]) (resR (readRq bs a),[]):=fun e h=>by
  rw [h]; exact lax_z _ _
 refine ⟨⟨fun h=>⟨⟨⟨(textA bs a).1,[],[],0,0⟩,0,(textA bs a).2.1⟩,rfl,thn_ok (rdT_ok h),rfl,rfl,rfl,rfl⟩,fun h=>⟨rfl,bad _ (thn_no (rdT_no h))⟩⟩,?_⟩
 rintro ⟨⟨en,fs,ls,sd,pm⟩,n,at_⟩ ⟨hP,h1,h2,h3,h4⟩
 dsimp only at hP h1 h2 h3 h4 ⊢
 subst h1 h2 h3 h4
 refine ⟨⟨⟨⟨by decide,by decide,rfl⟩,fun h=>⟨⟨⟨en,[],[],0,0⟩,(uintA bs at_).1.toNat,(uintA bs at_).2.1⟩,?_,rfl,hP.trans (thn_ok (rdN_ok h)),?_,rfl,rfl,rfl,rfl⟩,fun h=>⟨rfl,bad _ (hP.trans (thn_no (rdN_no h)))⟩,fun h=>bad _ (hP.trans (thn_no (rdN_big h)))⟩,?_⟩,?_⟩
 ·obtain ⟨u0,u1⟩:=uintA_bound (bs:=bs) (at_:=at_)
  have:(((uintA bs at_).1.toNat:Nat):Int) = (uintA bs at_).1:=Int.toNat_of_nonneg u0
  simp only [this]
 ·have:=h.2
  show (uintA bs at_).1.toNat≤8
  omega
 ·clear hP en n at_
  rintro ⟨⟨en,fs,ls,sd,pm⟩,n,at_⟩ ⟨hP,hn,h1,h2,h3,h4⟩
  dsimp only at hP hn h1 h2 h3 h4 ⊢
  subst h1 h2 h3 h4
  refine ⟨⟨⟨⟨en,[],[],0,0⟩,n,at_⟩,rfl,rfl,hP,Nat.zero_le _,hn,rfl,rfl,rfl⟩,?_⟩
  clear hP hn en n at_
  rintro ⟨⟨en,fs,ls,sd,pm⟩,n,at_⟩ ⟨hP,hl,hn,h2,h3,h4⟩
  dsimp only at hP hl hn h2 h3 h4 ⊢
  subst h2 h3 h4
  have hlen:(strsL fs).length = fs.length:=List.length_map _
  refine ⟨fun hc=>?_,fun hc=>?_⟩
  ·have hlt:fs.length < n:=by have:=of_decide_eq_true hc; omega
   rw [sub_step hlt,rFs_step] at hP
   refine ⟨⟨rfl,fun h=>⟨by rw [hlen]; omega,hlen.symm,⟨⟨en,fs ++ [(textA bs at_).1],[],0,0⟩,n,(textA bs at_).2.1⟩,?_,?_,⟨?_,?_,?_,hn,rfl,rfl,rfl⟩,?_⟩,fun h=>⟨rfl,bad _ (hP.trans (thn_no (rdT_no h)))⟩⟩,?_⟩
   ·have:(((fs ++ [(textA bs at_).1]).length:Nat):Int) - 1 = fs.length:=by simp only [List.length_append,List.length_cons,List.length_nil]; omega
    simp only [this]
   ·simp only [List.length_append,List.length_cons,List.length_nil,hlen,strsL,List.map_append]; rfl
   ·rw [hP,thn_ok (rdT_ok h)]; simp only [List.length_append,List.length_cons,List.length_nil]
   ·simp only [List.length_append,List.length_cons,List.length_nil]; omega
   ·simp only [List.length_append,List.length_cons,List.length_nil]; omega
   ·have:(((fs ++ [(textA bs at_).1]).length:Nat):Int) - 1 = fs.length:=by simp only [List.length_append,List.length_cons,List.length_nil]; omega
    simp only [this]
   ·clear hP
    rintro ⟨⟨en,fs2,ls,sd,pm⟩,n2,at_⟩ ⟨hP,hl1,hl2,hn2,h2,h3,h4⟩ hr
    dsimp only at hP hl1 hl2 hn2 h2 h3 h4 hr ⊢
    subst h2 h3 h4
    simp only [List.cons.injEq,AV.int.injEq,true_and,and_true] at hr
    obtain ⟨r1,r2⟩:=hr
    have hw:IntKind.i64.wrap ((fs2.length:Int) - 1 + 1) = fs2.length:=by rw [wrapi64]; omega
    exact ⟨⟨⟨en,fs2,[],0,0⟩,n2,at_⟩,by simp only [hw],rfl,⟨hP,hl2,hn2,rfl,rfl,rfl⟩,by show n2 - fs2.length < n - fs.length; omega⟩
  ·have hlt:n = fs.length:=by have:=of_decide_eq_false hc; omega
   subst hlt
   rw [Nat.sub_self] at hP
   exact ⟨⟨⟨en,fs,[],0,0⟩,fs.length,at_⟩,rfl,hP,hn,rfl,rfl,rfl⟩
 ·clear hP en n at_
  rintro ⟨⟨en,fs,ls,sd,pm⟩,n,at_⟩ ⟨hP,hf,h2,h3,h4⟩
  dsimp only at hP hf h2 h3 h4 ⊢
  subst h2 h3 h4
  refine ⟨⟨⟨⟨by decide,by decide,rfl⟩,fun h=>⟨⟨⟨en,fs,[],0,0⟩,(uintA bs at_).1.toNat,(uintA bs at_).2.1⟩,?_,rfl,hP.trans (thn_ok (rdN_ok h)),?_,hf,rfl,rfl,rfl⟩,fun h=>⟨rfl,bad _ (hP.trans (thn_no (rdN_no h)))⟩,fun h=>bad _ (hP.trans (thn_no (rdN_big h)))⟩,?_⟩,?_⟩
  ·obtain ⟨u0,u1⟩:=uintA_bound (bs:=bs) (at_:=at_)
   have:(((uintA bs at_).1.toNat:Nat):Int) = (uintA bs at_).1:=Int.toNat_of_nonneg u0
   simp only [this]
  ·have:=h.2
   show (uintA bs at_).1.toNat≤256
   omega
  ·clear hP hf en fs n at_
   rintro ⟨⟨en,fs,ls,sd,pm⟩,n,at_⟩ ⟨hP,hn,hf,h2,h3,h4⟩
   dsimp only at hP hn hf h2 h3 h4 ⊢
   subst h2 h3 h4
   refine ⟨⟨⟨⟨en,fs,[],0,0⟩,n,at_⟩,rfl,rfl,hP,Nat.zero_le _,hn,hf,rfl,rfl⟩,?_⟩
   clear hP hn hf en fs n at_
   rintro ⟨⟨en,fs,ls,sd,pm⟩,n,at_⟩ ⟨hP,hl,hn,hf,h3,h4⟩
   dsimp only at hP hl hn hf h3 h4 ⊢
   subst h3 h4
   have hlen:(lbsL ls).length = ls.length:=List.length_map _
   refine ⟨fun hc=>?_,fun hc=>?_⟩
   ·have hlt:ls.length < n:=by have:=of_decide_eq_true hc; omega
    rw [sub_step hlt,rLs_step] at hP
    unfold rdLb at hP
    rw [thn_thn] at hP
    refine ⟨rfl,fun h=>⟨⟨rfl,rfl⟩,fun g=>⟨⟨rfl,rfl⟩,fun k=>⟨by rw [hlen]; omega,hlen.symm,⟨⟨en,fs,ls ++ [⟨(textA bs at_).1,(sintA bs (textA bs at_).2.1).1,(sintA bs (sintA bs (textA bs at_).2.1).2.1).1⟩],0,0⟩,n,(sintA bs (sintA bs (textA bs at_).2.1).2.1).2.1⟩,?_,?_,⟨?_,?_,hn,hf,rfl,rfl⟩,?_⟩,fun k=>⟨rfl,bad _ ?_⟩⟩,fun g=>⟨rfl,bad _ ?_⟩⟩,fun h=>⟨rfl,bad _ (hP.trans (thn_no (rdT_no h)))⟩⟩
    ·have hw:IntKind.i64.wrap ((ls.length:Int) + 1) = ls.length + 1:=by rw [wrapi64]; omega
     simp only [List.length_append,List.length_cons,List.length_nil,hw]; rfl
    ·simp only [List.length_append,List.length_cons,List.length_nil,hlen,lbsL,List.map_append]; rfl
    ·rw [hP,thn_ok (rdT_ok h),thn_thn,thn_ok (rdI_ok g),thn_thn,thn_ok (rdI_ok k)]; simp only [List.length_append,List.length_cons,List.length_nil]; rfl
    ·simp only [List.length_append,List.length_cons,List.length_nil]; omega
    ·simp only [List.length_append,List.length_cons,List.length_nil]; omega
    ·rw [hP,thn_ok (rdT_ok h),thn_thn,thn_ok (rdI_ok g),thn_thn,thn_no (rdI_no k)]
    ·rw [hP,thn_ok (rdT_ok h),thn_thn,thn_no (rdI_no g)]
   ·have hlt:n = ls.length:=by have:=of_decide_eq_false hc; omega
    subst hlt
    rw [Nat.sub_self] at hP
    exact ⟨⟨⟨en,fs,ls,0,0⟩,ls.length,at_⟩,rfl,hP,rfl,rfl⟩
  ·clear hP hf en fs n at_
   rintro ⟨⟨en,fs,ls,sd,pm⟩,n,at_⟩ ⟨hP,h3,h4⟩
   dsimp only at hP h3 h4 ⊢
   subst h3 h4
   refine ⟨rfl,fun h=>⟨rfl,fun g=>?_,fun g=>⟨rfl,bad _ ?_⟩⟩,fun h=>⟨rfl,bad _ (hP.trans (thn_no (rdI_no h)))⟩⟩
   ·have P:readRq bs a = .ok (⟨en,fs,ls,(sintA bs at_).1,(sintA bs (sintA bs at_).2.1).1⟩,(sintA bs (sintA bs at_).2.1).2.1):=by
     rw [hP]; unfold r15; rw [thn_ok (rdI_ok h)]; unfold r16; rw [thn_ok (rdI_ok g)]
    have hr:CallIs (tbl [(46,s46)] 46 [rqA ⟨en,fs,ls,(sintA bs at_).1,(sintA bs (sintA bs at_).2.1).1⟩]) (.bool (formB ⟨en,fs,ls,(sintA bs at_).1,(sintA bs (sintA bs at_).2.1).1⟩)) []:=by
     rw [tbl_hit,run46]; exact callSome rfl
    refine ⟨_,hr,fun hb=>?_,fun hb=>?_⟩
    ·rw [P]
     unfold resR
     simp only [hb,if_true]
     exact lax_r' ⟨en,fs,ls,(sintA bs at_).1,(sintA bs (sintA bs at_).2.1).1⟩ _
    ·rw [P]
     unfold resR
     simp only [hb,if_false,Bool.false_eq_true]
     exact lax_z _ _
   ·rw [hP]; unfold r15; rw [thn_ok (rdI_ok h)]; unfold r16; rw [thn_no (rdI_no g)]
def sRead:Spec:=sRd fun bs a=>resR (readRq bs a)
theorem o28 (m:Int):SpecOk PQ (GQ m) 28 sRead:=spec_wk [1] fun args r hr=>tlax_of' mixedQ fun a' r' hr'=>by
 split at hr'
 case isFalse=>cases hr'
 rename_i e; subst e; injection hr' with hr'; subst hr'
 unfold sRead sRd onBytes at hr
 split at hr
 case h_2=>cases hr
 split at hr
 case isFalse=>cases hr
 rename_i hz
 split at hr
 case h_2=>cases hr
 rename_i bs hb
 dsimp only at hr
 split at hr
 case isFalse=>cases hr
 rename_i hs
 injection hr with hr; subst hr
 simp only [wkL,wk1 hz hb]
 exact ⟨_,_,_,_,_,_,tbl_cons (o46 m) tbl_nil,itbl_nil,ptbl_cons (o65 m) (ptbl_cons (o66 m) (ptbl_cons (o67 m) (ptbl_nil J0_ok))),p28 m _ bs hs⟩
def inE (es:List AV) (a e:Int):List AV:=[.sl 1 es .no,.int .i64 a,.int .i64 e]
def v3 (b0:List AV) (b2:Option (List AV)) (es:List AV) (a e:Int) (lv:List (Nat × TypeId)):St:=⟨[some b0,some (inE es a e),b2],lv⟩
def v4 (b0 b2:List AV) (b3:Option (List AV)) (es:List AV) (a e:Int) (lv:List (Nat × TypeId)):St:=⟨[some b0,some (inE es a e),some b2,b3],lv⟩
/-! Read -/
def t29:List (FuncId × Spec):=[(33,s33)]
section
variable (m a e : Int) (bs : List UInt8) (b0 b2 b3 : List AV) (q q2 : Nat × TypeId) (hb : strOk bs)
include hb
variable (k : Int) (hk : k ≤ 1000)
include hk
end
end Go.Abs
namespace Go.Abs
open Go.Proofs
end Go.Abs
namespace Go.Abs
open Go.Proofs Go.Wire
def a7 (r:Rq) (at_:Int):Anns:=⟨fun k=>match k with
 | 1000006=>some { α:=List UInt8,slots:=[2,4,7],nb:=1,vals:=fun x=>[.int .i64 at_,.ptr 0 0,.sl 1 (bytesL x) .no],sS:=fun _=>stR r,I:=fun x=>x.length≤2000,μ:=fun _=>0 }
 | _=>none,nA⟩
end Go.Abs
namespace Go.Abs
open Go.Proofs
end Go.Abs
namespace Go.Abs
open Go.Proofs Go.RowKit
section
variable {P : Program} {G : Glob}
theorem ISpecOk.mono {f:FuncId} {s s':ISpec} (hs:ISpecOk P G f s) (h:∀ args S p r,s' args S = some (p,r)→p→∃ p',s args S = some (p',r)∧p'):ISpecOk P G f s':=by
 intro g args S r S' hr
 simp only [lowC] at hr
 by_cases e:g = f
 ·subst e
  simp only [if_true] at hr
  split at hr
  case h_2=>cases hr
  rename_i x hx
  split at hr
  case isFalse=>cases hr
  rename_i hp
  injection hr with hr
  obtain ⟨p',h1,h2⟩:=h args S x.1 x.2 hx hp
  refine hs g args S r S' ?_
  simp only [lowC,if_true,h1]
  rw [if_pos h2,hr]
 ·simp only [if_neg e] at hr
  cases hr
def sClone (sz bytes:Nat):ISpec:=fun args S=>match args with
 | [.sl sz' es _]=>if es.isEmpty then some (True,.sl sz [] .full,S) else if sz' = sz then some (es.length * bytes≤140737488355328,.ms S.boxes.length sz es.length,{ S with boxes:=S.boxes ++ [some (ownC sz es)] }) else none
 | _=>none
theorem oClone {f:FuncId} {e:TypeId} {sz bytes:Nat} (hgd:goodFn P f) (hsz:0 < sz)
  (hc:∀ (b off n c:Nat) (news:List Value) (w:World),news.length = n * sz→n≤maxLen→n * bytes≤140737488355328→(∀ j u,news[j]? = some u→w.cell? ⟨b,off + j,none⟩ = some u)→(∀ u ∈ news,u.oneCell' = true) →
   Calls P f #[.slice (some ⟨b,off,none⟩) n c] w fun x w'=>∃ v',x = .returned v'∧w'.ownsRow w.heap.size e sz v' n news∧v' ≠ .slice none 0 0∧Below w.heap.size w w')
  (hnil:∀ (n c:Nat) (w:World),Calls P f #[.slice none n c] w fun x w'=>x = .returned (.slice none 0 0)∧w' = w)
  (h0:∀ (a:Addr) (c:Nat) (w:World),Calls P f #[.slice (some a) 0 c] w fun x w'=>∃ A,x = .returned (.slice A 0 0)∧Below w.heap.size w w'):ISpecOk P G f (sClone sz bytes):=by
 intro f' args S r S' h
 simp only [lowC] at h
 split at h
 case h_2=>cases h
 rename_i x hx
 split at h
 case isFalse=>cases h
 rename_i hp
 injection h with h
 split at hx
 case isFalse=>cases hx
 rename_i ef
 subst ef
 unfold sClone at hx
 split at hx
 case h_2=>cases hx
 rename_i sz' es o
 split at hx
 ·rename_i hes
  injection hx with hx
  subst hx
  simp only [Prod.mk.injEq] at h
  obtain ⟨rfl,rfl⟩:=h
  have hes':es = []:=by simpa using hes
  subst hes'
  refine ⟨hgd,fun N0 w0 I0 E w vs hS hvs hv=>?_⟩
  obtain ⟨a,rfl⟩:=vs_one hvs
  have hr:=hv 0 _ _ rfl rfl
  have hout:∀ (E':Env) (w':World) (A:Option Addr),Rep E' w' (.sl sz [] .full) (.slice A 0 0):=fun E' w' A =>
   .sl sz [] .full A 0 (fun _ _=>.bool true) (Nat.le_refl _) (Nat.zero_le _) (.inl rfl) (by simp) (by simp) rfl (by simp) (fun _ _=>rfl)
  cases hr with | sl _ _ _ A cap u hcap hmax hA _ _ _ _ _ =>
  cases A with
  | none =>
   refine (hnil 0 cap w).mono ?_
   rintro x w' ⟨rfl,rfl⟩
   exact ⟨_,E,rfl,hS,Env.Le.refl _ _,hout _ _ _⟩
  | some A =>
   refine (h0 A cap w).mono ?_
   rintro x w' ⟨A',rfl,hb⟩
   obtain ⟨hS1,hL1⟩:=hS.ext hb (I':=E.I) (fun _ _ h=>h) (fun _ _ h=>.inl h)
   exact ⟨_,_,rfl,hS1,hL1,hout _ _ _⟩
 ·rename_i hes
  split at hx
  case isFalse=>cases hx
  rename_i hz
  subst hz
  injection hx with hx
  subst hx
  simp only [Prod.mk.injEq] at h
  obtain ⟨rfl,rfl⟩:=h
  have hes':es ≠ []:=by simpa using hes
  refine ⟨hgd,fun N0 w0 I0 E w vs hS hvs hv=>?_⟩
  obtain ⟨a,rfl⟩:=vs_one hvs
  have hr:=hv 0 _ _ rfl rfl
  obtain ⟨A,cap,rfl⟩:∃ A cap,a = .slice A es.length cap:=by cases hr with | sl _ _ _ A cap=>exact ⟨A,cap,rfl⟩
  obtain ⟨vals,hvals,_,hat⟩:=rep_vals (P:=P) hr hsz
  have hAm:(∃ b off,A = some ⟨b,off,none⟩)∧es.length≤maxLen:=by
   cases hr with | sl _ _ _ _ _ u hcap hmax hA _ _ _ _ _ =>
   rcases hA with hA | ⟨b,off,hA,_⟩
   ·exact absurd hA hes'
   ·exact ⟨⟨b,off,hA⟩,Nat.le_trans hcap hmax⟩
  obtain ⟨⟨b,off,rfl⟩,hmax⟩:=hAm
  refine (hc b off es.length cap vals w hvals.1 hmax hp (fun j u hj=>(hat b off rfl j u hj).2) hvals.2.2.2.1).mono ?_
  rintro x w' ⟨v',rfl,hown,hnn,hb⟩
  obtain ⟨_,hL1⟩:=hS.ext hb (I':=E.I) (fun _ _ h=>h) (fun _ _ h=>.inl h)
  obtain ⟨E',h1,h2,h3⟩:=hS.take_new hb hown hnn rfl (hvals.le hL1)
  exact ⟨v',E',rfl,h1,h2,h3⟩
end
end Go.Abs
namespace Go.Proofs.Q24
open Go.RowKit Go.Abs Go.Lib
theorem info65:(PQ.info? 65).map (fun i=>(i.zero,i.size,i.bytes)) = some (some (.agg #[.string ⟨#[]⟩,.int .i64 0,.int .i64 0]),3,32):=by kernel_rfl
set_option maxHeartbeats 2000000 in
set_option maxRecDepth 100000 in
theorem clone57 (b off n c:Nat) (news:List Value) (w:World) (hl:news.length = n * 3) (hn:n≤maxLen) (hbig:n * 32≤140737488355328)
  (hc:∀ j u,news[j]? = some u→w.cell? ⟨b,off + j,none⟩ = some u) (h1:∀ u ∈ news,u.oneCell' = true) :
  Calls PQ 57 #[.slice (some ⟨b,off,none⟩) n c] w fun e w'=>∃ v',e = .returned v'∧w'.ownsRow w.heap.size 65 3 v' n news∧v' ≠ .slice none 0 0∧Below w.heap.size w w':=by
 obtain ⟨i0,hi0,hz0,hz1,hz2⟩:=info_parts info65
 have t22:=Tryz.underlying24
 have q22:∀ (w:World) (a:Option Addr) (n c n' c':Nat),(binOp .eql 24 (.slice a n c) (.slice none n' c')).run PQ w = .ok (.bool a.isNone) w:=fun w a n c n' c'=>Lib.run_eql_slice_nil w _ _ a n c n' c' Tryz.underlying24
 have u22:∀ w,Sem.run PQ (underlying 24) w = .ok (TypeDesc.slice 65) w:=run_underlying t22
 have A:Aside (∀ j u,news[j]? = some u→w.cell? ⟨b,off + j,none⟩ = some u):=hc
 clear hc
 go_enter Tryz.func57,Tryz.ntmps57
 go_wp2_with (at_builtin; refine wpList_append_own _ rfl _ _ 24 rfl w.heap.size 65 i0 _ 3 32 t22 hi0 hz0 hz1 hz2 rfl (by decide) _ _ _ rfl (World.ownsRow_made w #[] 0 (Nat.le_refl _) (Nat.zero_le _) (by simp)) ⟨b,off,none⟩ n c news rfl ?qc1 ?qc2 ?qc3 ?qc4 ?qc5 ?qc6 ?_)
 case qc1=>exact hl
 case qc2 =>
  intro j u hj
  rw [Addr.add_lit]
  exact Lib.cell?_alloc_some _ (A.out j u hj)
 case qc3=>exact h1
 case qc4=>rw [Nat.zero_add]; exact hn
 case qc5=>rw [Nat.zero_add]; exact hbig
 case qc6=>simp
 intro v' w1 hown hgrow hnil
 go_wp2
 go_ret
 refine ⟨v',rfl,by simpa using hown,hnil,?_⟩
 exact ((Below.refl _ w).alloc (Nat.le_refl _) _).grown hgrow (by simp) (by intro k hk; simp [Value.ownBlock] at hk; omega)
theorem cloneNil57 (n c:Nat) (w:World):Calls PQ 57 #[.slice none n c] w fun e w'=>e = .returned (.slice none 0 0)∧w' = w:=by
 have q22:∀ (w:World) (a:Option Addr) (n c n' c':Nat),(binOp .eql 24 (.slice a n c) (.slice none n' c')).run PQ w = .ok (.bool a.isNone) w:=fun w a n c n' c'=>Lib.run_eql_slice_nil w _ _ a n c n' c' Tryz.underlying24
 go_enter Tryz.func57,Tryz.ntmps57
 go_wp2
 go_ret
 exact ⟨rfl,rfl⟩
theorem cloneEmpty57 (a:Addr) (c:Nat) (w:World):Calls PQ 57 #[.slice (some a) 0 c] w fun e w'=>∃ A,e = .returned (.slice A 0 0)∧Below w.heap.size w w':=by
 have q22:∀ (w:World) (a:Option Addr) (n c n' c':Nat),(binOp .eql 24 (.slice a n c) (.slice none n' c')).run PQ w = .ok (.bool a.isNone) w:=fun w a n c n' c'=>Lib.run_eql_slice_nil w _ _ a n c n' c' Tryz.underlying24
 have u22:∀ w,Sem.run PQ (underlying 24) w = .ok (TypeDesc.slice 65) w:=run_underlying Tryz.underlying24
 go_enter Tryz.func57,Tryz.ntmps57
 go_wp2
 go_ret
 exact ⟨_,rfl,(Below.refl _ w).alloc (Nat.le_refl _) _⟩
end Go.Proofs.Q24
namespace Go.Abs
open Go.Proofs
theorem o57 (m:Int):ISpecOk PQ (GQ m) 57 (sClone 3 32):=oClone (goodQ (by kernel_rfl)) (by decide) Q24.clone57 Q24.cloneNil57 Q24.cloneEmpty57
end Go.Abs
namespace Go.Abs
open Go.Proofs
def libT:List (FuncId × Spec):=[(161,sIndexByte),(163,sIndexByteString),(133,sContains)]
theorem libT_ok (m:Int):CalleeOk PQ (GQ m) (tbl libT):=by
 refine tbl_cons (o_indexByte (fn:=Tryz.f161) (by kernel_rfl) (by kernel_rfl) (by kernel_rfl) (by kernel_rfl) (by kernel_rfl)) (tbl_cons (o_indexByteString (fn:=Tryz.f163) (by kernel_rfl) (by kernel_rfl) (by kernel_rfl) (by kernel_rfl) (by kernel_rfl)) (tbl_cons ?_ tbl_nil))
 exact o_contains (goodQ (by kernel_rfl)) (g0:=0) (m:=m) rfl fun s sub m w hs hm=>Tryz.strings_Contains s sub m w hs hm
def src0:List UInt8:=[111,102,32,117,115,101,114,32,116,97,107,101,32,97,44,32,98,32,115,101,101,100,32,55,32,107,101,101,112,32,53,48,48,32,97,116,32,34,117,34,32,49,48,32,50,48,44,32,34,118,34,32,53,32,57]
def tok0:List Tk:=[⟨1,[111,102],0⟩,⟨1,[117,115,101,114],3⟩,⟨1,[116,97,107,101],8⟩,⟨1,[97],13⟩,⟨5,[44],14⟩,⟨1,[98],16⟩,⟨1,[115,101,101,100],18⟩,⟨2,[55],23⟩,⟨1,[107,101,101,112],25⟩,⟨2,[53,48,48],30⟩,⟨1,[97,116],34⟩,⟨4,[117],37⟩,⟨2,[49,48],41⟩,⟨2,[50,48],44⟩,⟨5,[44],46⟩,⟨4,[118],48⟩,⟨2,[53],52⟩,⟨2,[57],54⟩,⟨6,[],55⟩]
set_option maxRecDepth 100000 in
theorem run36_0 (m:Int):(evs PQ (GQ m) (tbl libT) (fun _=>[]) 200).1 36 [bytesA src0] = some (.tup [.sl 3 (toksL tok0) (.tok 0),.sl 0 [] .nil,.int .i64 0],[(19,99)]):=by kernel_rfl
def src1:List UInt8:=[111,102,32,117,115,101,114,32,116,97,107,101,32,97,44,32,97,32,115,101,101,100,32,48,32,107,101,101,112,32,49,48,48,48]
def tok1:List Tk:=[⟨1,[111,102],0⟩,⟨1,[117,115,101,114],3⟩,⟨1,[116,97,107,101],8⟩,⟨1,[97],13⟩,⟨5,[44],14⟩,⟨1,[97],16⟩,⟨1,[115,101,101,100],18⟩,⟨2,[48],23⟩,⟨1,[107,101,101,112],25⟩,⟨2,[49,48,48,48],30⟩,⟨6,[],34⟩]
set_option maxRecDepth 100000 in
theorem run36_1 (m:Int):(evs PQ (GQ m) (tbl libT) (fun _=>[]) 200).1 36 [bytesA src1] = some (.tup [.sl 3 (toksL tok1) (.tok 0),.sl 0 [] .nil,.int .i64 0],[(11,99)]):=by kernel_rfl
def src2:List UInt8:=[111,102,32,117,115,101,114,32,116,97,107,101,32,97,32,115,101,101,100,32,48,32,107,101,101,112,32,49,48,48,48,32,97,116,32,34,117,34,32,49,48]
def tok2:List Tk:=[⟨1,[111,102],0⟩,⟨1,[117,115,101,114],3⟩,⟨1,[116,97,107,101],8⟩,⟨1,[97],13⟩,⟨1,[115,101,101,100],15⟩,⟨2,[48],20⟩,⟨1,[107,101,101,112],22⟩,⟨2,[49,48,48,48],27⟩,⟨1,[97,116],32⟩,⟨4,[117],35⟩,⟨2,[49,48],39⟩,⟨6,[],41⟩]
set_option maxRecDepth 100000 in
theorem run36_2 (m:Int):(evs PQ (GQ m) (tbl libT) (fun _=>[]) 200).1 36 [bytesA src2] = some (.tup [.sl 3 (toksL tok2) (.tok 0),.sl 0 [] .nil,.int .i64 0],[(12,99)]):=by kernel_rfl
def src3:List UInt8:=[111,102,32,105,102,32,116,97,107,101,32,97]
def tok3:List Tk:=[⟨1,[111,102],0⟩,⟨1,[105,102],3⟩,⟨1,[116,97,107,101],6⟩,⟨1,[97],11⟩,⟨6,[],12⟩]
set_option maxRecDepth 100000 in
theorem run36_3 (m:Int):(evs PQ (GQ m) (tbl libT) (fun _=>[]) 200).1 36 [bytesA src3] = some (.tup [.sl 3 (toksL tok3) (.tok 0),.sl 0 [] .nil,.int .i64 0],[(5,99)]):=by kernel_rfl
theorem evs_spec {P:Program} {G:Glob} {R0:Callee} {hint:FuncId→List Bool} (hm:P.follows .mixedOrders = true) (h0:CalleeOk P G R0) (n:Nat) (f:FuncId):SpecOk P G f ((evs P G R0 hint n).1 f):=by
 intro g args r lv h
 by_cases e:g = f
 ·subst e
  simp only [if_true] at h
  exact (evs_ok hm h0 hint n).1 g args r lv h
 ·simp only [e,if_false] at h
  cases h
def exT (bs:List UInt8):Option (List Tk):=if bs = src0 then some tok0 else if bs = src1 then some tok1 else if bs = src2 then some tok2 else if bs = src3 then some tok3 else none
def s36x:Spec:=fun args=>match args with
 | [.sl 1 es .no]=>(unBytes es).bind fun bs=>(exT bs).map fun ts=>s36v ts [] 0
 | _=>none
def s11x:Spec:=fun args=>match args with
 | [.sl 1 es .no]=>(unBytes es).bind fun bs=>(exT bs).map fun ts=>(resT ts [] 0,[])
 | _=>none
theorem exT_inv {bs:List UInt8} {ts:List Tk} (h:exT bs = some ts):(bs = src0∧ts = tok0)∨(bs = src1∧ts = tok1)∨(bs = src2∧ts = tok2)∨(bs = src3∧ts = tok3):=by
 unfold exT at h
 split at h
 ·rename_i e; injection h with h; exact .inl ⟨e,h.symm⟩
 split at h
 ·rename_i e; injection h with h; exact .inr (.inl ⟨e,h.symm⟩)
 split at h
 ·rename_i e; injection h with h; exact .inr (.inr (.inl ⟨e,h.symm⟩))
 split at h
 ·rename_i e; injection h with h; exact .inr (.inr (.inr ⟨e,h.symm⟩))
 ·cases h
theorem good_ex {bs:List UInt8} {ts:List Tk} (h:exT bs = some ts):GoodT ts:=by
 rcases exT_inv h with ⟨_,rfl⟩ | ⟨_,rfl⟩ | ⟨_,rfl⟩ | ⟨_,rfl⟩
 ·exact ⟨⟨tok0.dropLast,tok0.getLast (by decide),rfl,rfl⟩,by decide,by decide⟩
 ·exact ⟨⟨tok1.dropLast,tok1.getLast (by decide),rfl,rfl⟩,by decide,by decide⟩
 ·exact ⟨⟨tok2.dropLast,tok2.getLast (by decide),rfl,rfl⟩,by decide,by decide⟩
 ·exact ⟨⟨tok3.dropLast,tok3.getLast (by decide),rfl,rfl⟩,by decide,by decide⟩
theorem ex_inv {args:List AV} {r:AV × List (Nat × TypeId)} {k:List Tk→AV × List (Nat × TypeId)} (h:(match args with
 | [.sl 1 es .no]=>(unBytes es).bind fun bs=>(exT bs).map k
 | _=>none) = some r):∃ bs ts,args = [bytesA bs]∧exT bs = some ts∧r = k ts:=by
 split at h
 case h_2=>cases h
 rename_i es
 cases hb:unBytes es with
 | none=>rw [hb] at h; cases h
 | some bs =>
  rw [hb] at h
  simp only [Option.bind_some] at h
  cases ht:exT bs with
  | none=>rw [ht] at h; cases h
  | some ts =>
   rw [ht] at h
   simp only [Option.map_some,Option.some.injEq] at h
   exact ⟨bs,ts,by rw [unBytes_some hb],ht,h.symm⟩
theorem s36x_at {bs:List UInt8} {ts:List Tk} (h:exT bs = some ts):s36x [bytesA bs] = some (s36v ts [] 0):=by
 simp only [s36x,unBytes_mk,Option.bind_some,h,Option.map_some]
theorem toks_lax (ts:List Tk) (L:Nat):RetLax (.tup [.sl 3 (toksL ts) (.tok L),.sl 0 [] .nil,.int .i64 0]) (s36v ts [] 0):=by
 refine ⟨?_,?_,rfl⟩
 ·exact ⟨⟨rfl,rfl,.inl rfl⟩,⟨rfl,rfl,.inr rfl⟩,rfl,trivial⟩
 ·rfl
theorem o36 (m:Int):SpecOk PQ (GQ m) 36 s36x:=SpecOk.own (evs_spec mixedQ (libT_ok m) 200 36) fun args r h=>by
 obtain ⟨bs,ts,rfl,ht,rfl⟩:=ex_inv h
 rcases exT_inv ht with ⟨rfl,rfl⟩ | ⟨rfl,rfl⟩ | ⟨rfl,rfl⟩ | ⟨rfl,rfl⟩
 ·exact ⟨_,run36_0 m,toks_lax _ _,fun L=>toks_lax _ L⟩
 ·exact ⟨_,run36_1 m,toks_lax _ _,fun L=>toks_lax _ L⟩
 ·exact ⟨_,run36_2 m,toks_lax _ _,fun L=>toks_lax _ L⟩
 ·exact ⟨_,run36_3 m,toks_lax _ _,fun L=>toks_lax _ L⟩
theorem o11x (m:Int):SpecOk PQ (GQ m) 11 s11x:=tlax_of' mixedQ fun args r h=>by
 obtain ⟨bs,ts,rfl,ht,rfl⟩:=ex_inv h
 have hR:=tbl_cons (o36 m) (tbl_cons (o46 m) tbl_nil)
 exact ⟨_,_,_,_,_,_,hR,itbl_nil,inlW_ok mixedQ hR itbl_nil (J1_ok m),p11 m s36x bs ts [] 0 (s36x_at ht) fun _ _ _=>good_ex ht⟩
noncomputable def evI (m:Int) (f:FuncId):ISpec:=fun args S=>((evs PQ (GQ m) (tbl libT) (fun _=>[]) 100).2 f args S).map fun r=>(True,r.1,r.2)
theorem evI_ok (m:Int) (f:FuncId):ISpecOk PQ (GQ m) f (evI m f):=by
 intro g args S r S' h
 simp only [lowC] at h
 by_cases e:g = f
 ·subst e
  simp only [if_true] at h
  split at h
  case h_2=>cases h
  rename_i y hy
  split at h
  case isFalse=>cases h
  injection h with h
  unfold evI at hy
  cases hx:(evs PQ (GQ m) (tbl libT) (fun _=>[]) 100).2 g args S with
  | none=>rw [hx] at hy; cases hy
  | some x =>
   rw [hx] at hy
   injection hy with hy
   subst hy
   exact (evs_ok mixedQ (libT_ok m) (fun _=>[]) 100).2 g args S r S' (by rw [hx,← h])
 ·simp only [if_neg e] at h
  cases h
def lv0:List Lb:=[⟨[118],5,9⟩,⟨[117],10,20⟩,⟨[117],9,30⟩,⟨[118],5,9⟩]
def lvS:List Lb:=[⟨[117],9,30⟩,⟨[117],10,20⟩,⟨[118],5,9⟩]
def s21x:Spec:=fun args=>match args with
 | [.sl sz es _]=>if sz = 3∧unL unLb es = some lv0 then some (.sl 3 (lbsL lvS) .no,[]) else none
 | _=>none
theorem w21x (m:Int) (r:AV):(laxW PQ (GQ m) X24 (tbl []) (itbl [(57,sClone 3 32),(58,evI m 58),(60,evI m 60)]) nAn [] 21 [.sl 3 (lbsL lv0) .no] (r,[])) =
(Nat.le 128 140737488355328∧True∧True∧(3:Nat) = (3:Nat)∧RetLax (AV.sl 3 [AV.agg [AV.str [117],I6 9,I6 30],AV.agg [AV.str [117],I6 10,I6 20],AV.agg [AV.str [118],I6 5,I6 9]] Own.no) (r,[])):=by kernel_rfl
end Go.Abs
namespace Go.Abs
open Go.Proofs Go.RowKit
def q14a:Oper:={ dst:=some 53,op:=.call { callee:=.value (.func 53),args:=#[.tmp 3],argTypes:=#[107] },type:=9,pos := "request.go:156",after:=#[],guard:=none }
def q14b:Oper:={ dst:=some 2,op:=.assign (.tmp 53),type:=9,pos := "request.go:156",after:=#[{ on:=0,ground:=.data },{ on:=0,ground:=.chain },{ on:=0,ground:=.phase }],guard:=none }
def b14:Code:=.seq (.region 13 #[q14a,q14b] false) .ret
theorem f14_at:PQ.funcs[14]? = some Tryz.f14:=by kernel_rfl
noncomputable def c14:Code:=(Tryz.f14.body).getD .skip
theorem f14_body:Tryz.f14.body = some c14:=by kernel_rfl
theorem f14_tail:codeAt 13 c14 = some b14:=by kernel_rfl
theorem f14_good:goodFn PQ 14:=goodQ (by kernel_rfl)
theorem f53_good:goodFn PQ 53:=goodQ (by kernel_rfl)
theorem f14_res:Tryz.f14.results = #[.tmp 2]:=by kernel_rfl
theorem tS_ok (m:Int):CalleeOk PQ (GQ m) (tbl tS):=tbl_cons (o46 m) (tbl_cons (o51 m) (tbl_cons (o52 m) tbl_nil))
theorem o14 (m:Int):SpecOk PQ (GQ m) 14 s14:=by
 refine tailQ_of (X:=XS) (R:=tbl tS) (C:=itbl [(50,s50)]) mixedQ (tS_ok m) (itbl_cons (o50 m) itbl_nil) f14_at f14_body f14_good fun args r h=>?_
 unfold s14 at h
 split at h
 case h_2=>cases h
 split at h
 case h_2=>cases h
 rename_i a0 x hx
 injection h with h
 subst h
 obtain rfl:=unRqN_inv _ _ hx
 refine ⟨[4,5,10],a14 x,[],13,_,rfl,p14 m x,fun wb Eb b T S E w a hb hH hS hL hT hd=>?_⟩
 rw [f14_tail] at hb
 injection hb with hb
 subst hb
 obtain ⟨hp,⟨b0,t,hS0,ht,hne⟩,hn54⟩:=hH
 have hr3:=hT.get 3
 rw [hp] at hr3
 obtain ⟨blk,hv3,hB⟩:=rep_ptr hr3
 have hb1:S.boxes[1]? = some (some (typB 107 [.opq,.sl 1 (bytesL t) (.tok 0)])):=by rw [hS0]; rfl
 have hl1:S.live = [(t.length,5)]:=by rw [hS0]
 have hcall:=str_walk hS hb1 hB hl1 hne
 have hsz:a.tmps.size = 54:=by rw [← hT.1,hn54]
 refine wp_seq (wp_region_list ?_)
 have hrun:(execOp a.eval q14a).run PQ w = .ok (.enter 53 #[a.tmps.getD 3 undef]) w:=by
  simp [execOp,q14a,resolve,Act.eval,Deferred.ofValue,invoke,run_callFunc f53_good]
 refine .inl ?_
 unfold Oper.wp
 rw [hrun,Oper.upon_enter,hv3]
 refine hcall.mono fun e w' ⟨he,hbel,hsize⟩=>?_
 subst he
 refine .inl ?_
 unfold Oper.wp
 have hrun2:(execOp (a.put (some 53) (.string ⟨t.toArray⟩)).eval q14b).run PQ w' = .ok (.value ((a.put (some 53) (.string ⟨t.toArray⟩)).eval (.tmp 53))) w':=rfl
 rw [show q14a.dst = some 53 from rfl,hrun2,Oper.upon_value]
 refine wp_ret ?_
 refine ⟨by simpa [Act.put,q14b] using hd,_,results_tmp f14_res _ _ _,_,rfl,?_⟩
 subst ht
 have hval:((a.put (some 53) (.string ⟨(fmtL x).toArray⟩)).put (some 2) ((a.put (some 53) (.string ⟨(fmtL x).toArray⟩)).eval (.tmp 53))).tmps.getD 2 undef = .string ⟨(fmtL x).toArray⟩:=by
  simp [Act.put,Act.eval,hsz]
 rw [show q14b.dst = some 2 from rfl,hval]
 exact res_below hbel.below fun B K=>.str _ _ rfl
end Go.Abs
namespace Go.Abs
open Go.Proofs
theorem p21x (m:Int):LaxOk PQ (GQ m) X24 (tbl []) (itbl [(57,sClone 3 32),(58,evI m 58),(60,evI m 60)]) nAn [] 21 [.sl 3 (lbsL lv0) .no] (.sl 3 (lbsL lvS) .no,[]):=by
 constructor
 rw [w21x]; unfold I6
 exact ⟨Nat.le_of_ble_eq_true rfl,trivial,trivial,rfl,⟨rfl,rfl,.inl rfl⟩,rfl,rfl⟩
theorem o21x (m:Int):SpecOk PQ (GQ m) 21 s21x:=lax_ofW (X:=X24) (m:=[]) [3] mixedQ tbl_nil (itbl_cons (o57 m) (itbl_cons (evI_ok m 58) (itbl_cons (evI_ok m 60) itbl_nil))) fun args r h=>by
 unfold s21x at h
 split at h
 case h_2=>cases h
 split at h
 case isFalse=>cases h
 rename_i hc
 obtain ⟨rfl,hu⟩:=hc
 injection h with h
 subst h
 obtain rfl:=unL_inv unLb_inv hu
 exact ⟨nAn,p21x m⟩
theorem SpecOk.sub {P:Program} {G:Glob} {f:FuncId} {s s':Spec} (hs:SpecOk P G f s) (h:∀ args r,s' args = some r→s args = some r):SpecOk P G f s':=by
 intro g args r lv hr
 by_cases e:g = f
 ·subst e
  simp only [if_true] at hr
  exact hs g args r lv (by simp only [if_true]; exact h _ _ hr)
 ·simp only [e,if_false] at hr
  cases hr
def s11y:Spec:=fun args=>match args with
 | [.sl 1 (e :: es) _]=>s11x [.sl 1 (e :: es) .no]
 | _=>none
theorem o11y (m:Int):SpecOk PQ (GQ m) 11 s11y:=spec_wk [1] fun args r h=>(o11x m).sub fun a r' h'=>by
 split at h'
 ·rename_i e
  subst e
  injection h' with h'
  subst h'
  unfold s11y at h
  split at h
  case h_2=>cases h
  exact h
 ·cases h'
def s14y:Spec:=fun args=>match args with
 | [.agg [.str e,.sl 1 (f :: fs) _,.sl 3 (l :: ls) _,s,p]]=>s14 [.agg [.str e,.sl 1 (f :: fs) .no,.sl 3 (l :: ls) .no,s,p]]
 | _=>none
def asI (R:Callee) (f:FuncId):ISpec:=fun args S=>(callA R S f args).map fun x=>(True,x.1,x.2)
theorem asI_ok {P:Program} {G:Glob} {R:Callee} (hR:CalleeOk P G R) {f:FuncId} (hg:goodFn P f):ISpecOk P G f (asI R f):=by
 intro g args S r S' h
 simp only [lowC] at h
 by_cases e:g = f
 ·subst e
  simp only [if_true] at h
  split at h
  case h_2=>cases h
  rename_i y hy
  split at h
  case isFalse=>cases h
  injection h with h
  unfold asI at hy
  cases hx:callA R S g args with
  | none=>rw [hx] at hy; cases hy
  | some x =>
   rw [hx] at hy
   injection hy with hy
   subst hy
   obtain ⟨x1,x2⟩:=x
   injection h with e1 e2
   simp only at e1 e2
   subst e1; subst e2
   refine ⟨hg,fun N0 w0 I0 E w vs hS hn hv=>?_⟩
   rcases callA_wp hR hS hn hv hx with ⟨_,hc⟩ | ⟨v,w',hrun,_⟩
   ·exact hc
   ·rw [run_callFunc hg] at hrun; cases hrun
 ·simp only [if_neg e] at h
  cases h
def tX:List (FuncId × Spec):=[(11,s11y),(14,s14y),(21,s21x)]
noncomputable def RX (m:Int):Callee:=(evs PQ (GQ m) (tbl tX) (fun _=>[]) 60).1
noncomputable def CX (m:Int):CCallee:=itbl [(11,asI (RX m) 11),(13,asI (RX m) 13),(14,asI (RX m) 14),(21,asI (RX m) 21),(22,asI (RX m) 22)]
theorem w16 (m:Int) (r:AV):(tqW PQ idMk (GQ m) X24 (tbl []) (CX m) [4,5,6] nAn [] 99 (fun _ _=>False) 16 [] (fun r0 _=>RetLax r0 (r,[]))) =
((55:Nat)≤(70368744177664:Nat)∧True∧True∧True∧True∧True∧(false = true→RetLax (AV.bool false) (r,[]))∧(false = false→(false = true→RetLax (AV.bool false) (r,[]))∧(false = false→True∧(true = true→True∧(false = true→RetLax (AV.bool false) (r,[]))∧(false = false→(false = true→RetLax (AV.bool false) (r,[]))∧(false = false→(false = true→RetLax (AV.bool false) (r,[]))∧(false = false→(false = true→RetLax (AV.bool false) (r,[]))∧(false = false→(false = true→RetLax (AV.bool false) (r,[]))∧(false = false→(false = true→RetLax (AV.bool false) (r,[]))∧(false = false→(false = true→RetLax (AV.bool false) (r,[]))∧(false = false→True∧(true = true→RetLax (AV.bool true) (r,[]))∧(true = false→RetLax (AV.bool false) (r,[]))))))))))∧(true = false→RetLax (AV.bool false) (r,[]))))):=by kernel_rfl
theorem rep_agg_wk {E:Env} {w:World} {e f l s p:AV} {fs ls:List AV} {o1 o2:Own} {v:Value} (h:Rep E w (.agg [e,.sl 1 (f :: fs) o1,.sl 3 (l :: ls) o2,s,p]) v):Rep E w (.agg [e,.sl 1 (f :: fs) .no,.sl 3 (l :: ls) .no,s,p]) v:=by
 cases h with | agg _ vs hn h1 h =>
 refine .agg _ vs hn h1 fun i c v hc hv=>?_
 match i,hc with
 | 0,hc=>exact h 0 c v hc hv
 | 1,hc=>simp at hc; subst hc; exact rep_wk (z:=1) (h 1 _ v rfl hv)
 | 2,hc=>simp at hc; subst hc; exact rep_wk (z:=3) (h 2 _ v rfl hv)
 | 3,hc=>exact h 3 c v hc hv
 | 4,hc=>exact h 4 c v hc hv
 | i + 5,hc=>simp at hc
theorem o14y (m:Int):SpecOk PQ (GQ m) 14 s14y:=by
 intro g args r lv hr
 by_cases e:g = 14
 ·subst e
  simp only [if_true] at hr
  unfold s14y at hr
  split at hr
  case h_2=>cases hr
  rename_i e f fs o1 l ls o2 s p
  intro E w vs hI hG hn hv hcl
  refine o14 m 14 [.agg [.str e,.sl 1 (f :: fs) .no,.sl 3 (l :: ls) .no,s,p]] r lv (by simp only [if_true]; exact hr) E w vs hI hG hn (fun i c v hi hv'=>?_) fun c hc=>?_
  ·match i,hi with
   | 0,hi=>simp at hi; subst hi; exact rep_agg_wk (hv 0 _ v rfl hv')
   | i + 1,hi=>simp at hi
  ·simp at hc
   subst hc
   have:=hcl _ List.mem_cons_self
   simp [AV.closed1,AV.closed] at this ⊢
   exact ⟨this.2.2.1,this.2.2.2⟩
 ·simp only [e,if_false] at hr
  cases hr
theorem tX_ok (m:Int):CalleeOk PQ (GQ m) (tbl tX):=tbl_cons (o11y m) (tbl_cons (o14y m) (tbl_cons (o21x m) tbl_nil))
theorem RX_ok (m:Int):CalleeOk PQ (GQ m) (RX m):=(evs_ok mixedQ (tX_ok m) (fun _=>[]) 60).1
theorem CX_ok (m:Int):ICalleeOk PQ (GQ m) (lowC (CX m)):=
 itbl_cons (asI_ok (RX_ok m) (goodQ (by kernel_rfl))) (itbl_cons (asI_ok (RX_ok m) (goodQ (by kernel_rfl))) (itbl_cons (asI_ok (RX_ok m) (goodQ (by kernel_rfl))) (itbl_cons (asI_ok (RX_ok m) (goodQ (by kernel_rfl))) (itbl_cons (asI_ok (RX_ok m) (goodQ (by kernel_rfl))) itbl_nil))))
theorem p16 (m:Int):TqOk PQ (GQ m) X24 (tbl []) (CX m) [4,5,6] nAn [] 99 (fun _ _=>False) 16 [] (.bool true):=by
 constructor
 rw [w16]
 have ht:RetLax (AV.bool true) (.bool true,[]):=⟨rfl,rfl,rfl⟩
 simp only [Bool.false_eq_true,false_implies,true_implies,Bool.true_eq_false,and_true,ht]
 decide
theorem f16_at:PQ.funcs[16]? = some Tryz.f16:=by kernel_rfl
noncomputable def c16:Code:=(Tryz.f16.body).getD .skip
theorem f16_body:Tryz.f16.body = some c16:=by kernel_rfl
theorem f16_tail:codeAt 99 c16 = none:=by kernel_rfl
theorem o16 (m:Int):SpecOk PQ (GQ m) 16 sTrue:=by
 refine tailQ_of (X:=X24) (R:=tbl []) (C:=CX m) mixedQ tbl_nil (CX_ok m) f16_at f16_body (goodQ (by kernel_rfl)) fun args r h=>?_
 unfold sTrue at h
 split at h
 case h_2=>cases h
 injection h with h
 subst h
 refine ⟨_,_,_,99,_,rfl,p16 m,fun wb Eb b T S E w a hb hH hS hL hT hd=>?_⟩
 rw [f16_tail] at hb
 cases hb
end Go.Abs
namespace Go.Abs
open Go.Proofs Go.Wire
def rdP (x:Except Int (Rq × Int)):PRq:=
 match x with
 | .error e=>⟨zRq,0,e⟩
 | .ok (r,a)=>if formB r then ⟨r,a,0⟩ else ⟨zRq,0,240⟩
theorem resR_prA (x:Except Int (Rq × Int)):resR x = prA (rdP x):=by
 unfold resR rdP
 cases x with
 | error e=>rfl
 | ok p=>obtain ⟨r,a⟩:=p; simp only; split <;> rfl
end Go.Abs
namespace Go.Abs
open Go.Proofs
abbrev w3c1 (x:Rq):List AV:=[AV.str x.entity,AV.sl 1 (strsL x.feats) Own.no,AV.sl 3 (lbsL x.labels) Own.no,AV.int IntKind.i64 x.seed,AV.int IntKind.i64 x.permille]
theorem w3 (m:Int) (bs:List UInt8) (x:Rq) (r:AV):(pureW PQ (GQ m) XT (tbl t3) (itbl []) (a3 x) [] 3 [.sl 1 (bytesL bs) .no,rqA x] (r,[])) =
(∃ (b:Bool),CallIs (tbl [(10,s10),(11,sParse),(12,sParse),(13,s13),(14,s14),(15,s15),(16,sTrue)] 10 [AV.agg (w3c1 x)]) (AV.bool b) []∧(b = true→((decide ((↑(bytesL bs).length:Int) > (2000:Int)) = true→(0:Int)≤(2000:Int)∧((0:Nat)≤(2000:Nat)∧(2000:Nat)≤(bytesL bs).length)∧((1:Nat) = (1:Nat)∨bytesL bs = [])∧∃ (y:List UInt8),ValsAre [AV.ptr 0 0,AV.sl 1 (List.drop 0 (List.take 2000 (bytesL bs))) Own.no] [AV.ptr 0 0,AV.sl 1 (bytesL y) Own.no]∧StIs { boxes:=[some (w3c1 x)],live:=[] } { boxes:=[some (w3c1 x)],live:=[] }∧True∧True)∧(decide ((↑(bytesL bs).length:Int) > (2000:Int)) = false→∃ (y:List UInt8),ValsAre [AV.ptr 0 0,AV.sl 1 (bytesL bs) Own.no] [AV.ptr 0 0,AV.sl 1 (bytesL y) Own.no]∧StIs { boxes:=[some (w3c1 x)],live:=[] } { boxes:=[some (w3c1 x)],live:=[] }∧True∧True))∧∀ (x_1:List UInt8),True→True→∃ (s:List UInt8),∃ (es:List AV),∃ (es_1:List AV),∃ (n:Int),∃ (n_1:Int),∃ (n_2:Int),∃ (n_3:Int),CallIs (tbl [(10,s10),(11,sParse),(12,sParse),(13,s13),(14,s14),(15,s15),(16,sTrue)] 11 [AV.sl 1 (bytesL x_1) Own.no]) (AV.tup [AV.agg [AV.str s,AV.sl 1 es Own.no,AV.sl 3 es_1 Own.no,I6 n,I6 n_1],I6 n_2,I6 n_3]) []∧∃ (s_1:List UInt8),∃ (es_2:List AV),∃ (es_3:List AV),∃ (n_4:Int),∃ (n_5:Int),∃ (n_6:Int),∃ (n_7:Int),CallIs (tbl [(10,s10),(11,sParse),(12,sParse),(13,s13),(14,s14),(15,s15),(16,sTrue)] 12 [AV.sl 1 (bytesL x_1) Own.no]) (AV.tup [AV.agg [AV.str s_1,AV.sl 1 es_2 Own.no,AV.sl 3 es_3 Own.no,I6 n_4,I6 n_5],I6 n_6,I6 n_7]) []∧∃ (b:Bool),CallIs (tbl [(10,s10),(11,sParse),(12,sParse),(13,s13),(14,s14),(15,s15),(16,sTrue)] 13 [AV.agg [AV.str s,AV.sl 1 es Own.no,AV.sl 3 es_1 Own.no,I6 n,I6 n_1],AV.agg [AV.str s_1,AV.sl 1 es_2 Own.no,AV.sl 3 es_3 Own.no,I6 n_4,I6 n_5]]) (AV.bool b) []∧(b = true→((n_2 == n_6) = true→((n_3 == n_7) = true→∃ (s:List UInt8),CallIs (tbl [(10,s10),(11,sParse),(12,sParse),(13,s13),(14,s14),(15,s15),(16,sTrue)] 14 [AV.agg (w3c1 x)]) (AV.str s) []∧∃ (s_2:List UInt8),CallIs (tbl [(10,s10),(11,sParse),(12,sParse),(13,s13),(14,s14),(15,s15),(16,sTrue)] 15 [AV.agg (w3c1 x)]) (AV.str s_2) []∧((s == s_2) = true→∃ (b:Bool),CallIs (some (AV.bool true,[])) (AV.bool b) []∧(b = true→RetIs (AV.bool true) [] (r,[]))∧(b = false→RetIs (AV.bool false) [] (r,[])))∧((s == s_2) = false→RetIs (AV.bool false) [] (r,[])))∧((n_3 == n_7) = false→RetIs (AV.bool false) [] (r,[])))∧((n_2 == n_6) = false→RetIs (AV.bool false) [] (r,[])))∧(b = false→RetIs (AV.bool false) [] (r,[])))∧(b = false→RetIs (AV.bool true) [] (r,[]))):=by kernel_rfl
theorem run15 {x:Rq} (hk:keysOk x.labels = true):s15 [rqA x] = some (.str (fmtL x),[]):=by
 simp only [s15,unRqN_ok,hk,if_true]
theorem run14' (x:Rq):s14 [rqA x] = some (.str (fmtL x),[]):=by simp only [s14,unRqN_ok]
theorem p3 (m:Int) (bs:List UInt8) (x:Rq) (hk:keysOk x.labels = true):PureOk PQ (GQ m) XT (tbl t3) (itbl []) (a3 x) [] 3 [.sl 1 (bytesL bs) .no,rqA x] (.bool true,[]):=by
 constructor
 rw [w3]; unfold w3c1 I6
 refine ⟨_,⟨run10 x⟩,fun b1=>⟨⟨fun h=>⟨by omega,⟨by omega,?_⟩,.inl rfl,bs.take 2000,⟨?_⟩,⟨rfl⟩,trivial,trivial⟩,fun h=>⟨bs,⟨rfl⟩,⟨rfl⟩,trivial,trivial⟩⟩,fun y _ _=>?_⟩,fun _=>⟨rfl⟩⟩
 ·have:=of_decide_eq_true h
  omega
 ·rw [List.drop_zero,show bytesL (bs.take 2000) = (bytesL bs).take 2000 from List.map_take ..]
 ·obtain ⟨f1,f2⟩:=prB_few y
  refine ⟨_,_,_,_,_,_,_,⟨runP y⟩,_,_,_,_,_,_,_,⟨runP y⟩,_,⟨run13 (x:=(prB y).r) (y:=(prB y).r) (by omega) (by omega)⟩,fun _=>⟨fun _=>⟨fun _=>⟨_,⟨run14' x⟩,_,⟨run15 hk⟩,fun _=>⟨_,⟨rfl⟩,fun _=>⟨rfl⟩,nofun⟩,fun h=>?_⟩,fun h=>?_⟩,fun h=>?_⟩,fun h=>?_⟩
  ·simp at h
  ·simp at h
  ·simp at h
  ·simp at h
end Go.Abs
namespace Go.Abs
open Go.Proofs Go.Wire
def E0 {α:Type} (x:Except Int α):Prop:=∀ e,x = .error e→e ≠ 0
theorem E0.thn {α β:Type} {x:Except Int α} {f:α→Except Int β} (h:E0 x) (hf:∀ a,E0 (f a)):E0 (thn x f):=fun e he=>by
 cases x with
 | error d=>injection he with he; subst he; exact h d rfl
 | ok a=>exact hf a e he
theorem E0.ok {α:Type} (a:α):E0 (.ok a:Except Int α):=fun e he=>by cases he
def XRo:Shapes:=fun f=>match f with
 | 33=>some shB
 | 34=>some shTextR
 | 35=>some shUintR
 | f=>XT f
def zP:PRq:=⟨zRq,0,0⟩
structure Rox where
 bs:List UInt8
 P:PRq
 Q:PRq
def rqB (r:Rq):List AV:=[.str r.entity,.sl 1 (strsL r.feats) .no,.sl 3 (lbsL r.labels) .no,.int .i64 r.seed,.int .i64 r.permille]
def st8 (r:Rq) (x:Rox):St:=⟨[some (rqB r),some (rqB x.P.r),some (rqB x.Q.r)],[]⟩
def a8 (r:Rq) (ys:List UInt8):Anns:=⟨fun k=>match k with
 | 1000004=>some { α:=Rox,slots:=[2,3,7],nb:=1,vals:=fun x=>[.sl 1 (bytesL ys) .no,.ptr 0 0,.sl 1 (bytesL x.bs) .no],sS:=fun _=>stR r,I:=fun x=>x.bs.length≤200,μ:=fun _=>0,keep:=some 0 }
 | 1000008=>some { α:=Rox,slots:=[3,7,9,11,12,13,14,15],nb:=3,vals:=fun x=>[.ptr 0 0,.sl 1 (bytesL x.bs) .no,.ptr 1 0,.int .i64 x.P.c,.sl 1 (bytesL (x.bs ++ encRq r)) .no,.ptr 2 0,.int .i64 x.Q.a,.int .i64 x.Q.c],sS:=st8 r,I:=fun x=>x.P = prB (fmtL r)∧x.bs.length≤200∧x.Q = rdP (readRq (x.bs ++ encRq r ++ ys.take 200) x.bs.length),μ:=fun _=>0,keep:=some 0 }
 | 1000010=>some { α:=Rox,slots:=[3,7,9,11,12],nb:=3,vals:=fun x=>[.ptr 0 0,.sl 1 (bytesL x.bs) .no,.ptr 1 0,.int .i64 x.P.c,.sl 1 (bytesL (x.bs ++ encRq r)) .no],sS:=st8 r,I:=fun x=>x.P = prB (fmtL r)∧x.bs.length≤200,μ:=fun _=>0,keep:=some 0 }
 | 1000014=>some { α:=Rox,slots:=[3,9,11],nb:=3,vals:=fun x=>[.ptr 0 0,.ptr 1 0,.int .i64 x.P.c],sS:=st8 r,I:=fun x=>x.P = prB (fmtL r),μ:=fun _=>0,keep:=some 0 }
 | _=>none,nA⟩
def t8:List (FuncId × Spec):=[(10,s10),(33,s33),(14,s14),(11,sParse),(31,sAppRq),(28,sRead),(13,s13),(34,sReadText),(35,sReadUint),(16,sTrue)]
abbrev w8c1 (x:Rq):List AV:=[AV.str x.entity,AV.sl 1 (strsL x.feats) Own.no,AV.sl 3 (lbsL x.labels) Own.no,AV.int IntKind.i64 x.seed,AV.int IntKind.i64 x.permille]
abbrev w8c2 (x:Rq) (y:Rox):St:={ boxes:=[some (w8c1 x),some [AV.str y.P.r.entity,AV.sl 1 (strsL y.P.r.feats) Own.no,AV.sl 3 (lbsL y.P.r.labels) Own.no,I6 y.P.r.seed,I6 y.P.r.permille],some [AV.str y.Q.r.entity,AV.sl 1 (strsL y.Q.r.feats) Own.no,AV.sl 3 (lbsL y.Q.r.labels) Own.no,I6 y.Q.r.seed,I6 y.Q.r.permille]],live:=[] }
abbrev w8c3 (x_4:Rox) (_b:Bool) (x:Rq) (r:AV):Prop:=(x_4.P.c == (0:Int)) = true→∃ (b:Bool),CallIs (tbl [(10,s10),(33,s33),(14,s14),(11,sParse),(31,sAppRq),(28,sRead),(13,s13),(34,sReadText),(35,sReadUint),(16,sTrue)] 13 [AV.agg [AV.str x_4.P.r.entity,AV.sl 1 (strsL x_4.P.r.feats) Own.no,AV.sl 3 (lbsL x_4.P.r.labels) Own.no,AV.int IntKind.i64 x_4.P.r.seed,AV.int IntKind.i64 x_4.P.r.permille],AV.agg (w8c1 x)]) (AV.bool b) []∧(b = true→∃ (b:Bool),CallIs (some (AV.bool true,[])) (AV.bool b) []∧(b = true→RetIs (AV.bool true) [] (r,[]))∧(b = false→RetIs (AV.bool false) [] (r,[])))∧(b = false→RetIs (AV.bool false) [] (r,[]))
abbrev w8c4 (y:Rox) (x:Rq):List AV:=[AV.ptr 0 0,AV.sl 1 (bytesL y.bs) Own.no,AV.ptr 1 0,I6 y.P.c,AV.sl 1 (bytesL (y.bs ++ encRq x)) Own.no,AV.ptr 2 0,I6 y.Q.a,I6 y.Q.c]
abbrev w8c5 (s:List UInt8) (es_3:List AV) (es_4:List AV) (n_4:Int) (n_5:Int):List AV:=[AV.str s,AV.sl 1 es_3 Own.no,AV.sl 3 es_4 Own.no,AV.int IntKind.i64 n_4,AV.int IntKind.i64 n_5]
abbrev w8c6 (x_1:Rox) (n_3:Int) (es_2:List AV) (n_6:Int) (n_7:Int):List AV:=[AV.ptr 0 0,AV.sl 1 (bytesL x_1.bs) Own.no,AV.ptr 1 0,I6 n_3,AV.sl 1 es_2 Own.no,AV.ptr 2 0,I6 n_6,I6 n_7]
abbrev w8c7 (ys:List UInt8):=List.take (min (200:Int) (↑(bytesL ys).length:Int)).toNat (bytesL ys)
abbrev w8c8 (x:Rq):=tbl [(10,s10),(33,s33),(14,s14),(11,sParse),(31,sAppRq),(28,sRead),(13,s13),(34,sReadText),(35,sReadUint),(16,sTrue)] 14 [AV.agg (w8c1 x)]
abbrev w8c9 (y:Rox) (x:Rq) (ys:List UInt8):Prop:=y.P = prB (fmtL x)∧y.bs.length≤(200:Nat)∧y.Q = rdP (readRq (y.bs ++ encRq x ++ List.take (200:Nat) ys) (↑y.bs.length:Int))
abbrev w8c10 (s_1:List UInt8) (es:List AV) (es_1:List AV) (n:Int) (n_1:Int):List AV:=[AV.str s_1,AV.sl 1 es Own.no,AV.sl 3 es_1 Own.no,AV.int IntKind.i64 n,AV.int IntKind.i64 n_1]
abbrev w8c11 (bs:List UInt8):=List.take (min (200:Int) (↑(bytesL bs).length:Int)).toNat (bytesL bs)
abbrev w8c12 (x_2:Rox):List AV:=[AV.str x_2.Q.r.entity,AV.sl 1 (strsL x_2.Q.r.feats) Own.no,AV.sl 3 (lbsL x_2.Q.r.labels) Own.no,AV.int IntKind.i64 x_2.Q.r.seed,AV.int IntKind.i64 x_2.Q.r.permille]
theorem w8 (m:Int) (x:Rq) (bs ys:List UInt8) (r:AV):(pureW PQ (GQ m) XRo (tbl t8) (itbl []) (a8 x ys) [] 8 [rqA x,.sl 1 (bytesL bs) .no,.sl 1 (bytesL ys) .no] (r,[])) =
(∃ (b:Bool),CallIs (tbl [(10,s10),(33,s33),(14,s14),(11,sParse),(31,sAppRq),(28,sRead),(13,s13),(34,sReadText),(35,sReadUint),(16,sTrue)] 10 [AV.agg (w8c1 x)]) (AV.bool b) []∧(b = true→∃ (b:Bool),CallIs (tbl [(10,s10),(33,s33),(14,s14),(11,sParse),(31,sAppRq),(28,sRead),(13,s13),(34,sReadText),(35,sReadUint),(16,sTrue)] 33 [AV.agg (w8c1 x)]) (AV.bool b) []∧(b = true→((0:Int)≤min (200:Int) (↑(bytesL bs).length:Int)∧((0:Nat)≤(min (200:Int) (↑(bytesL bs).length:Int)).toNat∧(min (200:Int) (↑(bytesL bs).length:Int)).toNat≤(bytesL bs).length)∧((1:Nat) = (1:Nat)∨bytesL bs = [])∧((1:Nat) = (1:Nat)∨([]:List AV) = [])∧((0:Nat) + (List.drop 0 (w8c11 bs)).length) * (2:Nat)≤(70368744177664:Nat)∧(List.drop 0 (w8c11 bs) = []→∃ (y:Rox),ValsAre [AV.sl 1 (bytesL ys) Own.no,AV.ptr 0 0,AV.sl 1 [] Own.no] [AV.sl 1 (bytesL ys) Own.no,AV.ptr 0 0,AV.sl 1 (bytesL y.bs) Own.no]∧StIs { boxes:=[some (w8c1 x)],live:=[] } { boxes:=[some (w8c1 x)],live:=[] }∧y.bs.length≤(200:Nat)∧True)∧(List.drop 0 (w8c11 bs) ≠ []→∃ (y:Rox),ValsAre [AV.sl 1 (bytesL ys) Own.no,AV.ptr 0 0,AV.sl 1 ([] ++ List.drop 0 (w8c11 bs)) Own.no] [AV.sl 1 (bytesL ys) Own.no,AV.ptr 0 0,AV.sl 1 (bytesL y.bs) Own.no]∧StIs { boxes:=[some (w8c1 x)],live:=[] } { boxes:=[some (w8c1 x)],live:=[] }∧y.bs.length≤(200:Nat)∧True))∧∀ (x_1:Rox),x_1.bs.length≤(200:Nat)→True→(0:Int)≤min (200:Int) (↑(bytesL ys).length:Int)∧((0:Nat)≤(min (200:Int) (↑(bytesL ys).length:Int)).toNat∧(min (200:Int) (↑(bytesL ys).length:Int)).toNat≤(bytesL ys).length)∧((1:Nat) = (1:Nat)∨bytesL ys = [])∧∃ (s:List UInt8),CallIs (w8c8 x) (AV.str s) []∧s.length≤(70368744177664:Nat)∧∃ (s_1:List UInt8),∃ (es:List AV),∃ (es_1:List AV),∃ (n:Int),∃ (n_1:Int),∃ (n_2:Int),∃ (n_3:Int),CallIs (tbl [(10,s10),(33,s33),(14,s14),(11,sParse),(31,sAppRq),(28,sRead),(13,s13),(34,sReadText),(35,sReadUint),(16,sTrue)] 11 [AV.sl 1 (List.map (fun (c:UInt8)=>AV.int IntKind.u8 (↑c.toNat:Int)) s) Own.no]) (AV.tup [AV.agg (w8c10 s_1 es es_1 n n_1),I6 n_2,I6 n_3]) []∧∃ (es_2:List AV),CallIs (tbl [(10,s10),(33,s33),(14,s14),(11,sParse),(31,sAppRq),(28,sRead),(13,s13),(34,sReadText),(35,sReadUint),(16,sTrue)] 31 [AV.sl 1 (bytesL x_1.bs) Own.no,AV.agg (w8c1 x)]) (AV.sl 1 es_2 Own.no) []∧(((1:Nat) = (1:Nat)∨([]:List AV) = [])∧((0:Nat) + es_2.length) * (2:Nat)≤(70368744177664:Nat)∧(es_2 = []→((1:Nat) = (1:Nat)∨([]:List AV) = [])∧((0:Nat) + (List.drop 0 (w8c7 ys)).length) * (2:Nat)≤(70368744177664:Nat)∧(List.drop 0 (w8c7 ys) = []→∃ (s:List UInt8),∃ (es_3:List AV),∃ (es_4:List AV),∃ (n_4:Int),∃ (n_5:Int),∃ (n_6:Int),∃ (n_7:Int),CallIs (some (resR (readRq [] (↑(bytesL x_1.bs).length:Int)),[])) (AV.tup [AV.agg (w8c5 s es_3 es_4 n_4 n_5),I6 n_6,I6 n_7]) []∧∃ (y:Rox),ValsAre (w8c6 x_1 n_3 es_2 n_6 n_7) (w8c4 y x)∧StIs { boxes:=[some (w8c1 x),some (w8c10 s_1 es es_1 n n_1),some (w8c5 s es_3 es_4 n_4 n_5)],live:=[] } (w8c2 x y)∧(w8c9 y x ys)∧True)∧(List.drop 0 (w8c7 ys) ≠ []→∃ (s:List UInt8),∃ (es_3:List AV),∃ (es_4:List AV),∃ (n_4:Int),∃ (n_5:Int),∃ (n_6:Int),∃ (n_7:Int),CallIs (tbl [(10,s10),(33,s33),(14,s14),(11,sParse),(31,sAppRq),(28,sRead),(13,s13),(34,sReadText),(35,sReadUint),(16,sTrue)] 28 [AV.sl 1 ([] ++ List.drop 0 (w8c7 ys)) Own.no,I6 (↑(bytesL x_1.bs).length:Int)]) (AV.tup [AV.agg (w8c5 s es_3 es_4 n_4 n_5),I6 n_6,I6 n_7]) []∧∃ (y:Rox),ValsAre (w8c6 x_1 n_3 es_2 n_6 n_7) (w8c4 y x)∧StIs { boxes:=[some (w8c1 x),some (w8c10 s_1 es es_1 n n_1),some (w8c5 s es_3 es_4 n_4 n_5)],live:=[] } (w8c2 x y)∧(w8c9 y x ys)∧True))∧(es_2 ≠ []→((1:Nat) = (1:Nat)∨es_2 = [])∧(es_2.length + (List.drop 0 (w8c7 ys)).length) * (2:Nat)≤(70368744177664:Nat)∧(0:Nat) + es_2.length = es_2.length∧∃ (s:List UInt8),∃ (es_3:List AV),∃ (es_4:List AV),∃ (n_4:Int),∃ (n_5:Int),∃ (n_6:Int),∃ (n_7:Int),CallIs (tbl [(10,s10),(33,s33),(14,s14),(11,sParse),(31,sAppRq),(28,sRead),(13,s13),(34,sReadText),(35,sReadUint),(16,sTrue)] 28 [AV.sl 1 (es_2 ++ List.drop 0 (w8c7 ys)) Own.no,I6 (↑(bytesL x_1.bs).length:Int)]) (AV.tup [AV.agg (w8c5 s es_3 es_4 n_4 n_5),I6 n_6,I6 n_7]) []∧∃ (y:Rox),ValsAre (w8c6 x_1 n_3 es_2 n_6 n_7) (w8c4 y x)∧StIs { boxes:=[some (w8c1 x),some (w8c10 s_1 es es_1 n n_1),some (w8c5 s es_3 es_4 n_4 n_5)],live:=[] } (w8c2 x y)∧(w8c9 y x ys)∧True))∧∀ (x_2:Rox),x_2.P = prB (fmtL x)∧x_2.bs.length≤(200:Nat)∧x_2.Q = rdP (readRq (x_2.bs ++ encRq x ++ List.take (200:Nat) ys) (↑x_2.bs.length:Int))→True→(((x_2.Q.c != (0:Int)) = true→RetIs (AV.bool false) [] (r,[]))∧((x_2.Q.c != (0:Int)) = false→((x_2.Q.a != (↑(bytesL (x_2.bs ++ encRq x)).length:Int)) = true→RetIs (AV.bool false) [] (r,[]))∧((x_2.Q.a != (↑(bytesL (x_2.bs ++ encRq x)).length:Int)) = false→∃ (b:Bool),CallIs (tbl [(10,s10),(33,s33),(14,s14),(11,sParse),(31,sAppRq),(28,sRead),(13,s13),(34,sReadText),(35,sReadUint),(16,sTrue)] 13 [AV.agg (w8c12 x_2),AV.agg (w8c1 x)]) (AV.bool b) []∧(b = true→∃ (y:Rox),ValsAre [AV.ptr 0 0,AV.sl 1 (bytesL x_2.bs) Own.no,AV.ptr 1 0,I6 x_2.P.c,AV.sl 1 (bytesL (x_2.bs ++ encRq x)) Own.no] [AV.ptr 0 0,AV.sl 1 (bytesL y.bs) Own.no,AV.ptr 1 0,I6 y.P.c,AV.sl 1 (bytesL (y.bs ++ encRq x)) Own.no]∧StIs { boxes:=[some (w8c1 x),some [AV.str x_2.P.r.entity,AV.sl 1 (strsL x_2.P.r.feats) Own.no,AV.sl 3 (lbsL x_2.P.r.labels) Own.no,I6 x_2.P.r.seed,I6 x_2.P.r.permille],some (w8c12 x_2)],live:=[] } (w8c2 x y)∧(y.P = prB (fmtL x)∧y.bs.length≤(200:Nat))∧True)∧(b = false→RetIs (AV.bool false) [] (r,[])))))∧∀ (x_3:Rox),x_3.P = prB (fmtL x)∧x_3.bs.length≤(200:Nat)→True→∃ (s:List UInt8),∃ (n:Int),∃ (n_4:Int),CallIs (tbl [(10,s10),(33,s33),(14,s14),(11,sParse),(31,sAppRq),(28,sRead),(13,s13),(34,sReadText),(35,sReadUint),(16,sTrue)] 34 [AV.sl 1 (bytesL (x_3.bs ++ encRq x)) Own.no,I6 (↑(bytesL x_3.bs).length:Int)]) (AV.tup [AV.str s,I6 n,I6 n_4]) []∧∃ (n_5:Int),∃ (n_6:Int),∃ (n_7:Int),CallIs (tbl [(10,s10),(33,s33),(14,s14),(11,sParse),(31,sAppRq),(28,sRead),(13,s13),(34,sReadText),(35,sReadUint),(16,sTrue)] 35 [AV.sl 1 (bytesL (x_3.bs ++ encRq x)) Own.no,I6 n]) (AV.tup [AV.int IntKind.u64 n_5,I6 n_6,I6 n_7]) []∧(((n_4 != (0:Int)) = true→RetIs (AV.bool false) [] (r,[]))∧((n_4 != (0:Int)) = false→((n_7 != (0:Int)) = true→RetIs (AV.bool false) [] (r,[]))∧((n_7 != (0:Int)) = false→((!s == x.entity) = true→RetIs (AV.bool false) [] (r,[]))∧((!s == x.entity) = false→((n_5 != IntKind.u64.wrap (↑(strsL x.feats).length:Int)) = true→RetIs (AV.bool false) [] (r,[]))∧((n_5 != IntKind.u64.wrap (↑(strsL x.feats).length:Int)) = false→∃ (y:Rox),ValsAre [AV.ptr 0 0,AV.ptr 1 0,I6 x_3.P.c] [AV.ptr 0 0,AV.ptr 1 0,I6 y.P.c]∧StIs { boxes:=[some (w8c1 x),some [AV.str x_3.P.r.entity,AV.sl 1 (strsL x_3.P.r.feats) Own.no,AV.sl 3 (lbsL x_3.P.r.labels) Own.no,I6 x_3.P.r.seed,I6 x_3.P.r.permille],some [AV.str x_3.Q.r.entity,AV.sl 1 (strsL x_3.Q.r.feats) Own.no,AV.sl 3 (lbsL x_3.Q.r.labels) Own.no,I6 x_3.Q.r.seed,I6 x_3.Q.r.permille]],live:=[] } (w8c2 x y)∧y.P = prB (fmtL x)∧True)))))∧∀ (x_4:Rox),x_4.P = prB (fmtL x)→True→((x_4.P.c == (2:Int)) = true→∃ (s:List UInt8),CallIs (w8c8 x) (AV.str s) []∧(decide ((↑s.length:Int) > (16384:Int)) = true→∃ (b:Bool),CallIs (some (AV.bool true,[])) (AV.bool b) []∧(b = true→RetIs (AV.bool true) [] (r,[]))∧(b = false→RetIs (AV.bool false) [] (r,[])))∧(decide ((↑s.length:Int) > (16384:Int)) = false→(w8c3 x_4 b x r)∧((x_4.P.c == (0:Int)) = false→RetIs (AV.bool false) [] (r,[]))))∧((x_4.P.c == (2:Int)) = false→(w8c3 x_4 b x r)∧((x_4.P.c == (0:Int)) = false→RetIs (AV.bool false) [] (r,[]))))∧(b = false→RetIs (AV.bool true) [] (r,[])))∧(b = false→RetIs (AV.bool true) [] (r,[]))):=by kernel_rfl
theorem t200 (bs:List UInt8):List.drop 0 (List.take (min 200 ((bytesL bs).length:Int)).toNat (bytesL bs)) = bytesL (bs.take 200):=by
 rw [List.drop_zero,bytesL_length,show bytesL (bs.take 200) = (bytesL bs).take 200 from List.map_take ..]
 rcases Nat.le_total 200 bs.length with h | h
 ·rw [show (min 200 (bs.length:Int)).toNat = 200 by omega]
 ·rw [show (min 200 (bs.length:Int)).toNat = bs.length by omega,List.take_of_length_le (by rw [bytesL_length]; omega),List.take_of_length_le (by rw [bytesL_length]; omega)]
theorem enc_len {x:Rq} (h:formB x = true):(encRq x).length≤30000:=by
 have F:=enc_in [] h
 have f5:=F.h5 x.labels.length
 rw [List.take_length] at f5
 have z1:=zig_len F.sd
 have z2:=zig_len F.pm
 have e:=enc_eq [] x
 rw [List.nil_append] at e
 rw [← e]
 simp only [List.length_append,List.length_nil] at f5 ⊢
 omega
theorem enc_ne (x:Rq):encRq x ≠ []:=by
 have h:0 < (encRq x).length:=by
  have:=uintL_length_pos (zig x.permille)
  unfold encRq
  rw [List.length_append]
  omega
 intro e
 rw [e] at h
 exact absurd h (by decide)
theorem runRd' {bs:List UInt8} {a:Int} (h:bs.length≤2000000):sRead [.sl 1 (bytesL bs) .no,.int .i64 a] = some (prA (rdP (readRq bs a)),[]):=by
 have hs:strOk bs:=h
 unfold sRead
 rw [sRd_at hs,resR_prA]
theorem rdP_enc {x:Rq} (h:formB x = true) (bs ys:List UInt8):rdP (readRq (bs ++ encRq x ++ ys) bs.length) = ⟨x,((bs ++ encRq x).length:Int),0⟩:=by
 have S:Seg (bs ++ encRq x ++ ys) bs.length ((bs ++ encRq x).length:Int) (encRq x):=⟨bs,ys,by rw [List.append_assoc],rfl,by rw [List.length_append]⟩
 rw [read_fwd h S]
 unfold rdP
 simp only
 rw [if_pos h]
theorem prB_two {x:Rq} (h:formB x = true):prB (fmtL x) = ⟨x,0,0⟩∨prB (fmtL x) = ⟨zRq,0,2⟩∧16384 < (fmtL x).length:=by
 by_cases hl:(fmtL x).length≤16384
 ·exact .inl (prB_fmt h hl)
 ·exact .inr ⟨prB_long hl,by omega⟩
theorem fmt_len {x:Rq} (h:formB x = true):(fmtL x).length≤70368744177664:=by
 have F:=fmt_in h
 obtain ⟨_,hs,hp,_⟩:=tickIn h
 have t1:=tick_iff.1 hs
 have t2:=tick_iff.1 hp
 have i1:=Lib.itoa_length_le x.seed (by omega) (by omega)
 have i2:=Lib.itoa_length_le x.permille (by omega) (by omega)
 have hj:=join_len [44,32] x.feats F.lf
 have hl:∀ y ∈ x.labels,lbOk y = true:=by
  simp only [formB,Bool.and_eq_true,List.all_eq_true] at h
  exact h.2
 have ht:=tail_len x.labels [32,97,116,32] (by simp) hl
 have hk:∀ l:List Lb,(∀ y ∈ l,y.key.length≤32)→ksum l≤l.length * 32:=fun l=>by
  induction l with
  | nil=>intro _; exact Nat.zero_le _
  | cons a l ih =>
   intro h
   have h1:=h a List.mem_cons_self
   have h2:=ih fun y hy=>h y (List.mem_cons_of_mem _ hy)
   have e:ksum (a :: l) = a.key.length + ksum l:=by simp [ksum]
   rw [e,List.length_cons]; omega
 have hk:=hk x.labels fun y hy=>(F.ll y hy).1
 have n1:=F.nf
 have n2:=F.nl
 have n3:=F.en
 unfold fmtL
 rw [if_pos h]
 simp only [fmtHead,fmtMid,List.length_append,List.length_cons,List.length_nil] at hj ⊢
 omega
theorem seg_head (x:Rq) (bs:List UInt8):∃ c,Seg (bs ++ encRq x) bs.length c (textL x.entity)∧∃ d,Seg (bs ++ encRq x) c d (uintL x.feats.length):=by
 have S:Seg (bs ++ encRq x) bs.length ((bs ++ encRq x).length:Int) (encRq x):=⟨bs,[],by rw [List.append_nil],rfl,by rw [List.length_append]⟩
 have hx:encRq x = textL x.entity ++ (uintL x.feats.length ++ (x.feats.flatMap textL ++ uintL x.labels.length ++ x.labels.flatMap lbB ++ uintL (zig x.seed) ++ uintL (zig x.permille))):=by
  simp only [encRq,List.append_assoc]
 have S':=S
 rw [hx] at S'
 obtain ⟨S1,S2⟩:=S'.cut
 obtain ⟨S2,_⟩:=S2.cut
 rw [← hx] at S1 S2
 exact ⟨_,S1,_,S2⟩
theorem p8 (m:Int) (x:Rq) (bs ys:List UInt8) (hk:keysOk x.labels = true):PureOk PQ (GQ m) XRo (tbl t8) (itbl []) (a8 x ys) [] 8 [rqA x,.sl 1 (bytesL bs) .no,.sl 1 (bytesL ys) .no] (.bool true,[]):=by
 constructor
 rw [w8]; unfold w8c7 w8c11
 simp only [t200]
 refine ⟨_,⟨run10 x⟩,fun _=>⟨_,⟨run33k hk⟩,fun hf=>⟨⟨by omega,⟨by omega,?_⟩,.inl trivial,.inl trivial,?_,fun h0=>⟨⟨[],zP,zP⟩,⟨rfl⟩,⟨rfl⟩,Nat.zero_le _,trivial⟩,fun h0=>⟨⟨bs.take 200,zP,zP⟩,⟨by rw [List.nil_append]⟩,⟨rfl⟩,?_,trivial⟩⟩,fun x1 h1 _=>⟨by omega,⟨by omega,?_⟩,.inl trivial,_,⟨run14' x⟩,fmt_len hf,_,_,_,_,_,_,_,⟨runP (fmtL x)⟩,_,⟨runApp (bs:=x1.bs) (x:=x) (by omega) hk⟩,?_,fun x2 h2 _=>?_⟩⟩,fun _=>⟨rfl⟩⟩,fun _=>⟨rfl⟩⟩
 ·have e:(bytesL bs).length = bs.length:=bytesL_length
  omega
 ·rw [bytesL_length,List.length_take]; omega
 ·rw [List.length_take]; omega
 ·have e:(bytesL ys).length = ys.length:=bytesL_length
  omega
 ·have hap:appRq x1.bs x = x1.bs ++ encRq x:=by unfold appRq; rw [if_pos hf]
  have hne:bytesL (x1.bs ++ encRq x) ≠ []:=by
   intro e
   have:=congrArg List.length e
   rw [bytesL_length,List.length_append] at this
   have h0:0 < (encRq x).length:=List.length_pos_iff.2 (enc_ne x)
   simp only [List.length_nil] at this; omega
  have hl:=enc_len hf
  have ht:(ys.take 200).length≤200:=by rw [List.length_take]; omega
  rw [hap]
  refine ⟨.inl trivial,?_,fun h0=>absurd h0 hne,fun _=>⟨.inl trivial,?_,by omega,_,_,_,_,_,_,_,⟨?_⟩,⟨x1.bs,prB (fmtL x),rdP (readRq (x1.bs ++ encRq x ++ ys.take 200) x1.bs.length)⟩,⟨rfl⟩,⟨rfl⟩,⟨rfl,h1,rfl⟩,trivial⟩⟩
  ·rw [bytesL_length,List.length_append]; omega
  ·rw [bytesL_length,bytesL_length,List.length_append]; omega
  ·have e1:bytesL (x1.bs ++ encRq x) ++ bytesL (ys.take 200) = bytesL (x1.bs ++ encRq x ++ ys.take 200):=(List.map_append ..).symm
   rw [e1,bytesL_length]
   exact runRd' (by simp only [List.length_append]; omega)
 ·obtain ⟨bs,P,Q⟩:=x2
  obtain ⟨hP,hb,hQ⟩:=h2
  simp only at hP hb hQ
  rw [rdP_enc hf] at hQ
  subst hQ
  simp only
  have F:=fmt_in hf
  have f1:=F.nf
  have f2:=F.nl
  have hl:=enc_len hf
  refine ⟨⟨fun h=>?_,fun _=>⟨fun h=>?_,fun _=>⟨_,⟨run13 (x:=x) (y:=x) (by omega) (by omega)⟩,fun _=>⟨⟨bs,P,⟨x,0,0⟩⟩,⟨rfl⟩,⟨rfl⟩,⟨hP,hb⟩,trivial⟩,fun h=>?_⟩⟩⟩,fun x3 h3 _=>?_⟩
  ·simp at h
  ·rw [bytesL_length] at h; simp at h
  ·simp at h
  ·obtain ⟨bs,P,Q⟩:=x3
   obtain ⟨hP,hb⟩:=h3
   simp only at hP hb
   obtain ⟨c,S1,d,S2⟩:=seg_head x bs
   have hs:strOk (bs ++ encRq x):=by show (bs ++ encRq x).length≤2000000; rw [List.length_append]; omega
   have hen:=F.en
   have r1:sReadText [.sl 1 (bytesL (bs ++ encRq x)) .no,.int .i64 ((bytesL bs).length:Int)] = some (rText (x.entity,c,0),[]):=by
    rw [sReadText_at hs,bytesL_length,textA_fwd S1 (by omega)]
   have r2:sReadUint [.sl 1 (bytesL (bs ++ encRq x)) .no,.int .i64 c] = some (rUint ((x.feats.length:Int),d,0),[]):=by
    rw [sReadUint_at hs,uint_fwd S2 (by omega)]
   refine ⟨_,_,_,⟨r1⟩,_,_,_,⟨r2⟩,⟨fun h=>?_,fun _=>⟨fun h=>?_,fun _=>⟨fun h=>?_,fun _=>⟨fun h=>?_,fun _=>⟨⟨bs,P,Q⟩,⟨rfl⟩,⟨rfl⟩,hP,trivial⟩⟩⟩⟩⟩,fun x4 h4 _=>?_⟩
   ·simp at h
   ·simp at h
   ·simp at h
   ·have e:IntKind.u64.wrap ((strsL x.feats).length:Int) = (x.feats.length:Int):=by
     rw [show (strsL x.feats).length = x.feats.length from List.length_map _,wrapu64]; omega
    rw [e] at h; simp at h
   ·obtain ⟨bs,P,Q⟩:=x4
    simp only at h4
    subst h4
    simp only
    rcases prB_two hf with h | ⟨h,hlen⟩
    ·rw [h]
     refine ⟨fun h=>?_,fun _=>⟨fun _=>⟨_,⟨run13 (x:=x) (y:=x) (by omega) (by omega)⟩,fun _=>⟨_,⟨rfl⟩,fun _=>⟨rfl⟩,nofun⟩,fun h=>?_⟩,fun h=>?_⟩⟩
     ·simp at h
     ·simp at h
     ·simp at h
    ·rw [h]
     refine ⟨fun _=>⟨_,⟨run14' x⟩,fun _=>⟨_,⟨rfl⟩,fun _=>⟨rfl⟩,nofun⟩,fun h=>?_⟩,fun h=>?_⟩
     ·have:=of_decide_eq_false h; omega
     ·simp at h
def sLaw8:Spec:=fun args=>match args with
 | [a,.sl 1 es .no,.sl 1 es' .no]=>match unRqN a,unBytes es,unBytes es' with
  | some r,some _,some _=>if keysOk r.labels = true then some (.bool true,[]) else none
  | _,_,_=>none
 | _=>none
theorem oLaw8 (m:Int):SpecOk PQ (GQ m) 8 sLaw8:=spec_of (X:=XRo) (m:=[]) mixedQ (tbl_cons (o10 m) (tbl_cons (o33 m) (tbl_cons (o14 m) (tbl_cons (o11g m) (tbl_cons (o31 m) (tbl_cons (o28 m) (tbl_cons (o13 m) (tbl_cons o34 (tbl_cons o35 (tbl_cons (o16 m) tbl_nil)))))))))) itbl_nil fun args r h=>by
 unfold sLaw8 at h
 split at h
 case h_2=>cases h
 split at h
 case h_2=>cases h
 rename_i h1 h2 h3
 split at h
 case isFalse=>cases h
 rename_i hk
 injection h with h; subst h
 rw [unBytes_some h2,unBytes_some h3,unRqN_inv _ _ h1]
 exact ⟨_,p8 m _ _ _ hk⟩
theorem sLaw8_true (r:Rq) (bs ys:List UInt8) (hk:keysOk r.labels = true):sLaw8 [rqA r,.sl 1 (bytesL bs) .no,.sl 1 (bytesL ys) .no] = some (.bool true,[]):=by
 simp only [sLaw8,unBytes_mk,unRqN_ok,hk,if_true]
end Go.Abs
namespace Go.Abs
open Go.ChangeShapes Go.WideShapes Go.ChangeAt Go.RowKit Go.Deep Go.ChangeMaps
open Go.Proofs Go.Proofs.YtfcdefnkhkijaaaGreatDoor
section
variable {H : Type} {enc : TypeId × Value → H} {P : Program} {W : World}
def ElemR (P:Program) (W:World) (enc:TypeId × Value→H) (e:TypeId) {α:Type} (g:α→AV) (Q:α→DataW H→Prop):Prop:=
 ∀ n cs x,DataW.trod enc P W 0 (fun _=>true) true n e cs = some x→∃ a:α,Q a x.1∧∀ (j:Nat) (c:AV) (u:Value),(g a).cells[j]? = some c→cs[j]? = some u→Rep (oldE W) W c u∧u.oneCell' = true
theorem open_slR {t e:TypeId} {sz:Nat} {α:Type} [Inhabited α] {g:α→AV} {Q:α→DataW H→Prop} (ht:P.underlying t = some (.slice e)) (hc:P.cellsOf e = sz) (hsz:0 < sz) (hg:∀ a,(g a).cells.length = sz∧(g a).closed1 = true) (hel:ElemR P W enc e g Q)
  {v:Value} {d:DataW H} {ps:List MemPlace} (hv:∃ A len cap,v = .slice A len cap) (h:DataW.Trod enc P W 0 (fun _=>true) true t v d ps) :
  ∃ l:List α,Rep (oldE W) W (.sl sz (l.map g) .no) v∧(l = []∨∃ elems spare,d = .slice elems spare∧elems.length = l.length∧∀ (i:Nat) a x,l[i]? = some a→elems[i]? = some x→Q a x):=by
 obtain ⟨a,len,cap,rfl⟩:=hv
 obtain ⟨fuel,h⟩:=h
 rcases open_slice ht h with ⟨hcs,_⟩ | ⟨a',len',cap',m,n,D,Pl,hcs,hb,hl,hmx,hm,hx,hels⟩
 ·simp [Value.cells] at hcs
  obtain ⟨rfl,rfl,rfl⟩:=hcs
  exact ⟨[],.sl sz [] .no none 0 (fun _ _=>.bool false) (by simp) (by simp [maxLen]) (.inl rfl) (by simp) (by simp) trivial (by simp) (fun _ _=>rfl),.inl rfl⟩
 ·simp [Value.cells] at hcs
  obtain ⟨rfl,rfl,rfl⟩:=hcs
  have hm':m = cap:=by simpa using hm
  have hch:∀ i,i < len→∃ x:α × List Value,x.2.length = sz∧(∀ j,j < sz→W.cell? (a'.add (i * sz + j)) = x.2[j]?)∧Q x.1 (D i)∧∀ (j:Nat) (c:AV) (u:Value),(g x.1).cells[j]? = some c→x.2[j]? = some u→Rep (oldE W) W c u∧u.oneCell' = true:=fun i hi=>by
   obtain ⟨cs,hcs,ht'⟩:=hels i (by omega)
   rw [hc] at hcs
   obtain ⟨_,hlen,hat⟩:=World.cells?_some hcs
   obtain ⟨x,hq,hx⟩:=hel n cs _ ht'
   refine ⟨(x,cs),hlen,fun j hj=>?_,hq,hx⟩
   have:=hat j hj
   rw [Go.Deep.add_add] at this
   exact this
  obtain ⟨f,hf⟩:=choose_lt hch
  refine ⟨(List.range len).map fun i=>(f i).1,?_,.inr ?_⟩
  ·have hlen:((List.range len).map fun i=>(f i).1).length = len:=by simp
   have hln:(((List.range len).map fun i=>(f i).1).map g).length = len:=by simp
   have hget:∀ (i:Nat) (e':AV),(((List.range len).map fun i=>(f i).1).map g)[i]? = some e'→i < len∧e' = g (f i).1:=fun i e' h=>by
    have hi:i < len:=by
     have:=(List.getElem?_eq_some_iff.1 h).1
     simpa using this
    refine ⟨hi,?_⟩
    simp [List.getElem?_range hi] at h
    exact h.symm
   let u:Nat→Nat→Value:=fun i j=>if i < len∧j < sz then ((f i).2[j]?).getD (.bool false) else .bool false
   have hu:∀ i j,i < len→j < sz→(f i).2[j]? = some (u i j):=fun i j hi hj=>by
    have h2:j < (f i).2.length:=by rw [(hf i hi).1]; exact hj
    simp only [u,hi,hj,and_self,if_true,List.getElem?_eq_getElem h2,Option.getD_some]
   have key:=Rep.sl (E:=oldE W) (w:=W) sz (((List.range len).map fun i=>(f i).1).map g) .no (some a') cap u (by rw [hln]; exact hl) hmx ?_ ?_ ?_ trivial ?_ ?_
   ·rw [hln] at key; exact key
   ·rcases Nat.eq_zero_or_pos len with h0 | h0
    ·left; subst h0; rfl
    ·right
     have h1:=(hf 0 h0).2.1 0 hsz
     rw [hu 0 0 h0 hsz] at h1
     have hadd:a'.add (0 * sz + 0) = a':=by unfold Addr.add; simp
     rw [hadd] at h1
     have hp:=addr_plain h1
     refine ⟨a'.block,a'.off,by rw [← hp],fun i e' j c hi hj=>?_⟩
     obtain ⟨hlt,rfl⟩:=hget i e' hi
     have hjs:j < sz:=by
      have:=(List.getElem?_eq_some_iff.1 hj).1
      rw [(hg _).1] at this; exact this
     have h2:=(hf i hlt).2.1 j hjs
     rw [hu i j hlt hjs,hp,addp] at h2
     have e:a'.off + i * sz + j = a'.off + (i * sz + j):=by omega
     refine ⟨cell_lt h1,by rw [e]; exact h2⟩
   ·intro e' he
    obtain ⟨x,hx,rfl⟩:=List.mem_map.1 he
    exact (hg x).1
   ·intro e' he
    obtain ⟨x,hx,rfl⟩:=List.mem_map.1 he
    exact (hg x).2
   ·intro i e' j c hi hj
    obtain ⟨hlt,rfl⟩:=hget i e' hi
    have hjs:j < sz:=by
     have:=(List.getElem?_eq_some_iff.1 hj).1
     rw [(hg _).1] at this; exact this
    exact ((hf i hlt).2.2.2 j c (u i j) hj (hu i j hlt hjs)).1
   ·intro i j
    by_cases hij:i < len∧j < sz
    ·have hjs:j < (g (f i).1).cells.length:=by rw [(hg _).1]; exact hij.2
     exact ((hf i hij.1).2.2.2 j _ (u i j) (List.getElem?_eq_getElem hjs) (hu i j hij.1 hij.2)).2
    ·simp only [u,if_neg hij]; rfl
  ·have hx1:=congrArg Prod.fst hx
   simp only at hx1
   refine ⟨_,_,hx1,by simp,fun i a x hi hxi=>?_⟩
   have hlt:i < len:=by
    have:=(List.getElem?_eq_some_iff.1 hi).1
    simpa using this
   simp [List.getElem?_range hlt] at hi hxi
   subst hi; subst hxi
   exact (hf i hlt).2.2.1
/-! cells that read so -/
def CellsAre (W:World) (l:List AV) (cs:List Value):Prop:=
 l.length = cs.length∧∀ (j:Nat) (c:AV) (u:Value),l[j]? = some c→cs[j]? = some u→Rep (oldE W) W c u∧u.oneCell' = true
theorem CellsAre.one {c:AV} {u:Value} (h:Rep (oldE W) W c u) (h1:u.oneCell' = true):CellsAre W [c] [u]:=⟨rfl,fun j c' u' hc hu=>by
 match j,hc,hu with
 | 0,hc,hu=>simp at hc hu; subst hc; subst hu; exact ⟨h,h1⟩⟩
theorem CellsAre.append {l r:List AV} {cs ds:List Value} (h:CellsAre W l cs) (k:CellsAre W r ds):CellsAre W (l ++ r) (cs ++ ds):=by
 refine ⟨by simp [h.1,k.1],fun j c u hc hu=>?_⟩
 rcases Nat.lt_or_ge j l.length with hj | hj
 ·rw [List.getElem?_append_left hj] at hc
  rw [List.getElem?_append_left (by rw [← h.1]; exact hj)] at hu
  exact h.2 j c u hc hu
 ·rw [List.getElem?_append_right hj] at hc
  rw [List.getElem?_append_right (by rw [← h.1]; exact hj),← h.1] at hu
  exact k.2 _ c u hc hu
theorem CellsAre.next {l r:List AV} {cs:List Value} {o s p:Nat} (h:CellsAre W l ((cs.drop o).take s)) (hp:p = o + s) (k:CellsAre W r (cs.drop p)):CellsAre W (l ++ r) (cs.drop o):=by
 subst hp
 have:=h.append k
 rwa [← List.drop_drop,List.take_append_drop] at this
theorem CellsAre.last {l:List AV} {cs:List Value} {o s:Nat} (h:CellsAre W l ((cs.drop o).take s)) (hs:cs.length = o + s):CellsAre W l (cs.drop o):=by
 rwa [List.take_of_length_le (by rw [List.length_drop]; omega)] at h
def ReadsAs (P:Program) (W:World) (enc:TypeId × Value→H) (t:TypeId) {α:Type} (g:α→List AV) (Q:α→Nat→Prop):Prop:=
 ∀ n cs x,DataW.trod enc P W 0 (fun _=>true) true n t cs = some x→∃ a:α,Q a (Rows.uptoBulk x.1)∧CellsAre W (g a) cs
theorem reads_int {t:TypeId} (ht:P.underlying t = some (.int .i64)):ReadsAs P W enc t (fun n:Int=>[.int .i64 n]) (fun n _=>-9223372036854775808≤n∧n≤9223372036854775807):=by
 intro n cs x h
 obtain ⟨k,rfl,_,hw⟩:=DataW.trod_int ht h
 have:=int_rng hw
 exact ⟨k,⟨this.1,by omega⟩,.one (.int _ _) rfl⟩
namespace Bulks
theorem one_le (d:DataW H):1≤Rows.uptoBulk d:=by
 cases d with
 | lit l=>cases l <;> simp [Rows.uptoBulk]
 | nil=>simp [Rows.uptoBulk]
 | ptr d=>simp [Rows.uptoBulk]
 | slice elems spare=>simp [Rows.uptoBulk]
 | agg parts=>simp [Rows.uptoBulk]
 | iface t d=>simp [Rows.uptoBulk]
 | map entries=>simp [Rows.uptoBulk]
 | held h=>simp [Rows.uptoBulk]
theorem part_le {d:DataW H} {l:List (DataW H)} (h:d ∈ l):Rows.uptoBulk d≤Rows.uptoBulkAll l:=by
 induction l with
 | nil=>cases h
 | cons x r ih =>
  simp only [Rows.uptoBulkAll]
  cases List.mem_cons.1 h with
  | inl e=>subst e; omega
  | inr e=>have:=ih e; omega
theorem length_le (l:List (DataW H)):l.length≤Rows.uptoBulkAll l:=by
 induction l with
 | nil=>simp [Rows.uptoBulkAll]
 | cons x r ih=>have:=one_le x; simp only [Rows.uptoBulkAll,List.length_cons]; omega
theorem bound {l:List (DataW H)} (hk:Rows.uptoSmall H l = true):Rows.uptoBulkAll l≤1048576:=by
 simpa [Rows.uptoSmall] using hk
theorem field_le {xs:List (DataW H × List MemPlace)} {i:Nat} {y:DataW H × List MemPlace} (h:xs[i]? = some y):Rows.uptoBulk y.1≤Rows.uptoBulk (DataW.agg (xs.map (·.1))):=by
 have:=part_le (List.mem_map_of_mem (f:=fun y:DataW H × List MemPlace=>y.1) (List.mem_of_getElem? h))
 simp only [Rows.uptoBulk]
 omega
end Bulks
theorem reads_slice {t e:TypeId} {sz:Nat} {α:Type} [Inhabited α] {g:α→AV} {Q:α→Nat→Prop} (ht:P.underlying t = some (.slice e)) (hc:P.cellsOf e = sz) (hsz:0 < sz) (hg:∀ a,(g a).cells.length = sz∧(g a).closed1 = true) (hel:ReadsAs P W enc e (fun a=>(g a).cells) Q)
  (hQ:∀ a n m,Q a n→n≤m→Q a m):ReadsAs P W enc t (fun l:List α=>[.sl sz (l.map g) .no]) (fun l n=>l.length≤n∧∀ a ∈ l,Q a n):=by
 intro n cs x h
 have hs:∃ A len cap,cs = [.slice A len cap]:=by
  rcases open_slice ht h with ⟨hcs,_⟩ | ⟨a',len',cap',m,n,D,Pl,hcs,_⟩
  ·exact ⟨_,_,_,hcs⟩
  ·exact ⟨_,_,_,hcs⟩
 obtain ⟨A,len,cap,rfl⟩:=hs
 have hel':ElemR P W enc e g (fun a d=>Q a (Rows.uptoBulk d)):=fun n cs x h=>by
  obtain ⟨a,h1,h2⟩:=hel n cs x h
  exact ⟨a,h1,h2.2⟩
 obtain ⟨l,hl,hb⟩:=open_slR ht hc hsz hg hel' ⟨A,len,cap,rfl⟩ (d:=x.1) (ps:=x.2) ⟨n,by simpa [Value.cells] using h⟩
 refine ⟨l,?_,.one hl rfl⟩
 rcases hb with rfl | ⟨elems,spare,he,hlen,hq⟩
 ·exact ⟨Nat.zero_le _,fun a ha=>by cases ha⟩
 ·rw [he]
  have hE:Rows.uptoBulk (DataW.slice elems spare) = Rows.uptoBulkAll elems + Rows.uptoBulkAll spare + 1:=by simp only [Rows.uptoBulk]
  rw [hE]
  refine ⟨by have:=Bulks.length_le elems; omega,fun a ha=>?_⟩
  obtain ⟨i,hi⟩:=List.mem_iff_getElem?.1 ha
  have hlt:i < elems.length:=by rw [hlen]; exact (List.getElem?_eq_some_iff.1 hi).1
  have hx:=List.getElem?_eq_getElem hlt
  refine hQ a _ _ (hq i a _ hi hx) ?_
  have:=Bulks.part_le (List.mem_of_getElem? hx)
  omega
/-! cells of any type -/
end
open Go.Proofs Go.Proofs.YtfcdefnkhkijaaaGreatDoor
section
variable {H : Type} {enc : TypeId × Value → H} {P : Program} {W : World}
theorem fieldR {t:TypeId} {α:Type} {g:α→List AV} {Q:α→Nat→Prop} (hr:ReadsAs P W enc t g Q) (hQ:∀ a n m,Q a n→n≤m→Q a m) {fs:Array Field} {xs:List (DataW H × List MemPlace)} {n:Nat} {cs:List Value} {x:DataW H × List MemPlace}
  (hx:x = (.agg (xs.map (·.1)),xs.flatMap (·.2))) (hxl:xs.length = fs.size)
  (hf:∀ (i:Nat) (f:Field),fs[i]? = some f→DataW.trod enc P W 0 (fun _=>true) true n f.type ((cs.drop f.offset).take (P.cellsOf f.type)) = xs[i]?)
  (i:Nat) {f:Field} (hi:fs[i]? = some f) (ht:f.type = t) {o s:Nat} (ho:f.offset = o) (hs:P.cellsOf t = s):∃ a,Q a (Rows.uptoBulk x.1)∧CellsAre W (g a) ((cs.drop o).take s):=by
 have h:=hf i f hi
 rw [ht,ho,hs] at h
 have hil:i < xs.length:=by rw [hxl]; exact (Array.getElem?_eq_some_iff.1 hi).1
 have hg:=List.getElem?_eq_getElem hil
 rw [hg] at h
 obtain ⟨a,h1,h2⟩:=hr n _ _ h
 refine ⟨a,hQ a _ _ h1 ?_,h2⟩
 rw [hx]
 exact Bulks.field_le hg
theorem ReadsAs.map {t:TypeId} {α β:Type} {g:α→List AV} {g':β→List AV} {Q:α→Nat→Prop} {Q':β→Nat→Prop} (h:ReadsAs P W enc t g Q) (f:α→β) (hg:∀ a,g a = g' (f a)) (hQ:∀ a n,Q a n→Q' (f a) n):ReadsAs P W enc t g' Q':=fun n cs x hx=>by
 obtain ⟨a,h1,h2⟩:=h n cs x hx
 exact ⟨f a,hQ a _ h1,by rw [← hg]; exact h2⟩
end
section
variable {H : Type} {enc : TypeId × Value → H} {W : World}
theorem cz3:PQ.cellsOf 3 = 1:=by kernel_rfl
theorem cz9:PQ.cellsOf 9 = 1:=by kernel_rfl
theorem cz23:PQ.cellsOf 23 = 1:=by kernel_rfl
theorem cz24:PQ.cellsOf 24 = 1:=by kernel_rfl
theorem cz65:PQ.cellsOf 65 = 3:=by kernel_rfl
theorem cz26:PQ.cellsOf 26 = 5:=by kernel_rfl
theorem st65:∃ f0 f1 f2:Field,PQ.underlying 65 = some (.struct #[f0,f1,f2])∧(f0.type = 9∧f0.offset = 0)∧(f1.type = 3∧f1.offset = 1)∧(f2.type = 3∧f2.offset = 2):=⟨_,_,_,Tryz.underlying65,⟨rfl,rfl⟩,⟨rfl,rfl⟩,⟨rfl,rfl⟩⟩
theorem st26:∃ f0 f1 f2 f3 f4:Field,PQ.underlying 26 = some (.struct #[f0,f1,f2,f3,f4])∧(f0.type = 9∧f0.offset = 0)∧(f1.type = 23∧f1.offset = 1)∧(f2.type = 24∧f2.offset = 2)∧(f3.type = 3∧f3.offset = 3)∧(f4.type = 3∧f4.offset = 4):=⟨_,_,_,_,_,Tryz.underlying26,⟨rfl,rfl⟩,⟨rfl,rfl⟩,⟨rfl,rfl⟩,⟨rfl,rfl⟩,⟨rfl,rfl⟩⟩
theorem rStr:ReadsAs PQ W enc 9 (fun s:List UInt8=>[.str s]) (fun s _=>s.length≤maxI):=by
 intro n cs x h
 obtain ⟨s,rfl,_,hw⟩:=DataW.trod_string Tryz.underlying9 h
 exact ⟨s.data.toList,by simpa [Lit.wf,maxI,maxLen] using hw,.one (mk_str s) rfl⟩
theorem rInt:ReadsAs PQ W enc 3 (fun n:Int=>[.int .i64 n]) (fun _ _=>True):=by
 intro n cs x h
 obtain ⟨s,_,h2⟩:=reads_int Tryz.underlying3 n cs x h
 exact ⟨s,trivial,h2⟩
theorem rLb:ReadsAs PQ W enc 65 (fun v:Lb=>(lbA v).cells) (fun v _=>v.key.length≤maxI):=by
 intro n cs x h
 obtain ⟨f0,f1,f2,hu,⟨t0,o0⟩,⟨t1,o1⟩,⟨t2,o2⟩⟩:=st65
 obtain ⟨xs,m,_,hx,hlen,hxl,hf⟩:=DataW.trod_struct hu h
 obtain ⟨a0,q0,c0⟩:=fieldR rStr (fun _ _ _ h _=>h) hx hxl hf 0 rfl t0 o0 cz9
 obtain ⟨a1,q1,c1⟩:=fieldR rInt (fun _ _ _ h _=>h) hx hxl hf 1 rfl t1 o1 cz3
 obtain ⟨a2,q2,c2⟩:=fieldR rInt (fun _ _ _ h _=>h) hx hxl hf 2 rfl t2 o2 cz3
 exact ⟨⟨a0,a1,a2⟩,q0,c0.next rfl (c1.next rfl (c2.last (by rw [hlen]; exact cz65)))⟩
theorem rLbs:ReadsAs PQ W enc 24 (fun l:List Lb=>[.sl 3 (lbsL l) .no]) (fun l _=>keysOk l = true):=fun n cs x h=>by
 obtain ⟨l,h1,h2⟩:=reads_slice (g:=lbA) Tryz.underlying24 cz65 (by omega) (fun _=>⟨rfl,rfl⟩) rLb (fun _ _ _ h _=>h) n cs x h
 exact ⟨l,by simpa [keysOk] using h1.2,h2⟩
theorem rStrs:ReadsAs PQ W enc 23 (fun l:List (List UInt8)=>[.sl 1 (strsL l) .no]) (fun _ _=>True):=fun n cs x h=>by
 obtain ⟨l,h1,h2⟩:=reads_slice (g:=AV.str) Tryz.underlying23 cz9 (by omega) (fun _=>⟨rfl,rfl⟩) rStr (fun _ _ _ h _=>h) n cs x h
 exact ⟨l,trivial,h2⟩
theorem rRq:ReadsAs PQ W enc 26 (fun r:Rq=>(rqA r).cells) (fun r _=>keysOk r.labels = true):=by
 intro n cs x h
 obtain ⟨f0,f1,f2,f3,f4,hu,⟨t0,o0⟩,⟨t1,o1⟩,⟨t2,o2⟩,⟨t3,o3⟩,⟨t4,o4⟩⟩:=st26
 obtain ⟨xs,m,_,hx,hlen,hxl,hf⟩:=DataW.trod_struct hu h
 obtain ⟨a0,q0,c0⟩:=fieldR rStr (fun _ _ _ h _=>h) hx hxl hf 0 rfl t0 o0 cz9
 obtain ⟨a1,q1,c1⟩:=fieldR rStrs (fun _ _ _ h _=>h) hx hxl hf 1 rfl t1 o1 cz23
 obtain ⟨a2,q2,c2⟩:=fieldR rLbs (fun _ _ _ h _=>h) hx hxl hf 2 rfl t2 o2 cz24
 obtain ⟨a3,q3,c3⟩:=fieldR rInt (fun _ _ _ h _=>h) hx hxl hf 3 rfl t3 o3 cz3
 obtain ⟨a4,q4,c4⟩:=fieldR rInt (fun _ _ _ h _=>h) hx hxl hf 4 rfl t4 o4 cz3
 exact ⟨⟨a0,a1,a2,a3,a4⟩,q2,c0.next rfl (c1.next rfl (c2.next rfl (c3.next rfl (c4.last (by rw [hlen]; exact cz26)))))⟩
instance : Inhabited Ft := ⟨⟨[], []⟩⟩
end
section
variable {H : Type} {enc : TypeId × Value → H} {W : World}
theorem open_one {t:TypeId} {α:Type} {g:α→AV} {Q:α→Nat→Prop} (hr:ReadsAs PQ W enc t (fun a=>[g a]) Q) {v:Value} {d:DataW H} {ps:List MemPlace} (h1:∃ u,v.cells = #[u]∧v = u) (h:DataW.Trod enc PQ W 0 (fun _=>true) true t v d ps):∃ a,Rep (oldE W) W (g a) v∧Q a (Rows.uptoBulk d):=by
 obtain ⟨u,hu,rfl⟩:=h1
 obtain ⟨fuel,h⟩:=h
 rw [hu] at h
 obtain ⟨a,q,c⟩:=hr fuel _ _ h
 exact ⟨a,(c.2 0 _ _ rfl rfl).1,q⟩
theorem open_agg {t:TypeId} {α:Type} {g:α→List AV} {Q:α→Nat→Prop} (hr:ReadsAs PQ W enc t g Q) {v:Value} {d:DataW H} {ps:List MemPlace} (h1:∃ cs,v = .agg cs) (h:DataW.Trod enc PQ W 0 (fun _=>true) true t v d ps):∃ a,Rep (oldE W) W (.agg (g a)) v∧Q a (Rows.uptoBulk d):=by
 obtain ⟨cs,rfl⟩:=h1
 obtain ⟨fuel,h⟩:=h
 obtain ⟨a,q,c⟩:=hr fuel _ _ h
 refine ⟨a,.agg _ cs ?_ (fun i v hv=>?_) fun i c' v hc hv=>?_,q⟩
 ·have:(g a).length = cs.toList.length:=c.1
  rw [this,Array.length_toList]
 ·have hv':cs.toList[i]? = some v:=by rw [Array.getElem?_toList]; exact hv
  have hil:i < (g a).length:=by rw [c.1]; exact (List.getElem?_eq_some_iff.1 hv').1
  exact (c.2 i _ v (List.getElem?_eq_getElem hil) hv').2
 ·exact (c.2 i c' v hc (by show cs.toList[i]? = some v; rw [Array.getElem?_toList]; exact hv)).1
end
theorem one_slice {P:Program} {W:World} {t e:TypeId} {v:Value} {b:Nat} (ht:P.underlying t = some (.slice e)) (h:Value.okWide P W .any b t v):∃ u,v.cells = #[u]∧v = u:=by
 obtain ⟨A,n,c,rfl⟩:=okWide_slice ht h
 exact ⟨_,rfl,rfl⟩
theorem is_agg {P:Program} {W:World} {t:TypeId} {fs:Array Field} {v:Value} {b:Nat} (ht:P.underlying t = some (.struct fs)) (h:Value.okWide P W .any b t v):∃ cs,v = .agg cs:=by
 obtain ⟨cs,h,_⟩:=okWide_struct ht h
 exact ⟨cs,h⟩
theorem witness_row_shaped {H:Type} {enc:TypeId × Value→H} {C:Checked} {os:Os} {f:FuncId} {fn:Func} {s:OpenSpec} {conds:List PathCond} {apart:Bool} {laid:List (String × DataW Unit)} (w0:World) (args:Array Value) (hos:w0.os = os)
  (hsh:(w0.forCall (fun _ _=>0) ⟨#[],args,[]⟩).Shaped C.prog)
  (hok:Input.okWideB C.prog (w0.forCall (fun _ _=>0) ⟨#[],args,[]⟩) f ⟨#[],args,[]⟩ = true)
  (hrow:s.preRow enc C.prog fn conds apart laid (w0.forCall (fun _ _=>0) ⟨#[],args,[]⟩).memory args) :
  ∃ (w:World) (tape:Tape) (i:Input),w.os = os∧(w.forCall tape i).Shaped C.prog∧i.vars = []∧Input.okWide C.prog (w.forCall tape i) .any w.heap.size f i ∧
   s.preRow enc C.prog fn conds apart laid (w.forCall tape i).memory i.args∧({}:Assume).holds C.prog (lone (Frame.enter C.prog f i.args .normal) [] (w.forCall tape i)):=
 ⟨w0,fun _ _=>0,⟨#[],args,[]⟩,hos,hsh,(Input.okWide_of_okWideB (base:=0) hok).1,(Input.okWide_of_okWideB hok).2,hrow,by
  simp only [Assume.holds]
  exact ⟨by simp,by simp,fun _=>Modest.zero,by simp,by simp⟩⟩
open Go.Proofs Go.Proofs.YtfcdefnkhkijaaaGreatDoor
section
variable {H : Type} {enc : TypeId × Value → H} {W : World}
theorem cz5:PQ.cellsOf 5 = 1:=by kernel_rfl
theorem rU8:ReadsAs PQ W enc 5 (fun c:UInt8=>[.int .u8 c.toNat]) (fun _ _=>True):=by
 intro n cs x h
 obtain ⟨k,rfl,_,hw⟩:=DataW.trod_int Tryz.underlying5 h
 have hk:0≤k∧k < 256:=by
  simp [Lit.wf,IntKind.min,IntKind.max,IntKind.signed,IntKind.bits] at hw
  omega
 refine ⟨UInt8.ofNat k.toNat,trivial,?_⟩
 have:((UInt8.ofNat k.toNat).toNat:Int) = k:=by rw [UInt8.toNat_ofNat']; omega
 show CellsAre W [AV.int .u8 ((UInt8.ofNat k.toNat).toNat:Int)] [.int .u8 k]
 rw [this]
 exact .one (.int _ _) rfl
theorem rBytes:ReadsAs PQ W enc 22 (fun l:List UInt8=>[.sl 1 (bytesL l) .no]) (fun l n=>l.length≤n):=fun n cs x h=>by
 obtain ⟨l,h1,h2⟩:=reads_slice (g:=fun c:UInt8=>AV.int .u8 c.toNat) Tryz.underlying22 cz5 (by omega) (fun _=>⟨rfl,rfl⟩) rU8 (fun _ _ _ h _=>h) n cs x h
 exact ⟨l,h1.1,h2⟩
end
end Go.Abs
namespace Go.Abs
open Go.Proofs Go.Proofs.YtfcdefnkhkijaaaGreatDoor Go.ChangeShapes Go.WideShapes Go.ChangeAt Go.RowKit Go.Deep Go.ChangeMaps
abbrev laidQl:List (String × DataW Unit):=Rows.requestChecksRow.laid
theorem gTens:PQ.globalNamed "asof/decimal.tens" = some 1:=by kernel_rfl
theorem gSyn:PQ.globalNamed "strconv.ErrSyntax" = some 2:=by kernel_rfl
theorem gRange:PQ.globalNamed "strconv.ErrRange" = some 3:=by kernel_rfl
theorem gPows:PQ.globalNamed "internal/strconv.uint64pow10" = some 4:=by kernel_rfl
theorem gFirst:PQ.globalNamed "unicode/utf8.first" = some 5:=by kernel_rfl
theorem gAcc:PQ.globalNamed "unicode/utf8.acceptRanges" = some 6:=by kernel_rfl
theorem nGlob:PQ.globals.size = 9:=by kernel_rfl
def tensL:List Int:=[1,10,100,1000,10000,100000,1000000]
section
variable {W : World}
theorem tens_cells (h:laidMet PQ laidQl W):∀ i,i < 7→W.cell? ⟨1,i,none⟩ = some (.int .i64 (10 ^ i)):=by
 obtain ⟨g,t,cs,fuel,p,h1,h2,h3,h4⟩:=Lib.laidMet.reads h (n := "asof/decimal.tens") (d:=Rows.laid_asof_decimal_tens) (by simp [laidQl,Rows.requestChecksRow])
 obtain rfl:=Option.some.inj (gTens.symm.trans h1)
 have ty:∃ t0 e,(PQ.globals[1]?).map (·.type) = some t0∧PQ.underlying t0 = some (.array 7 e)∧PQ.underlying e = some (.int .i64)∧PQ.cellsOf e = 1∧PQ.cellsOf t0 = 7:=⟨225,3,by kernel_rfl,by kernel_rfl,by kernel_rfl,by kernel_rfl,by kernel_rfl⟩
 obtain ⟨t0,e,g1,g2,g3,g4,g5⟩:=ty
 obtain rfl:=Option.some.inj (g1.symm.trans h2)
 have hcs:=Lib.cells_of_tab (zs:=tensL) g2 g3 g4 g5 h4
 intro i hi
 rw [World.var?_cell h1 h3 i,← Array.getElem?_toList,hcs]
 match i,hi with
 | 0,_ | 1,_ | 2,_ | 3,_ | 4,_ | 5,_ | 6,_=>rfl
theorem pow_cells (h:laidMet PQ laidQl W):∀ i,i < 20→W.cell? ⟨4,i,none⟩ = some (.int .u64 ((10 ^ i:Nat):Int)):=by
 obtain ⟨g,t,cs,fuel,p,h1,h2,h3,h4⟩:=Lib.laidMet.reads h (n := "internal/strconv.uint64pow10") (d:=Rows.laid_internal_strconv_uint64pow10) (by simp [laidQl,Rows.requestChecksRow])
 obtain rfl:=Option.some.inj (gPows.symm.trans h1)
 have ty:∃ t0 e,(PQ.globals[4]?).map (·.type) = some t0∧PQ.underlying t0 = some (.array 20 e)∧PQ.underlying e = some (.int .u64)∧PQ.cellsOf e = 1∧PQ.cellsOf t0 = 20:=⟨238,76,by kernel_rfl,by kernel_rfl,by kernel_rfl,by kernel_rfl,by kernel_rfl⟩
 obtain ⟨t0,e,g1,g2,g3,g4,g5⟩:=ty
 obtain rfl:=Option.some.inj (g1.symm.trans h2)
 have hd:(Rows.laid_internal_strconv_uint64pow10:DataW Unit) = Lib.tabData .u64 Lib.pow10Tab:=by kernel_rfl
 rw [hd] at h4
 have hcs:=Lib.cells_of_tab g2 g3 g4 g5 h4
 intro i hi
 rw [World.var?_cell h1 h3 i,← Array.getElem?_toList,hcs]
 simp [Lib.pow10Tab,hi]
theorem range_cell (h:laidMet PQ laidQl W):∃ t v,W.cell? ⟨3,0,none⟩ = some (.iface t v):=by
 obtain ⟨g,t,cs,fuel,p,h1,h2,h3,h4⟩:=Lib.laidMet.reads h (n := "strconv.ErrRange") (d:=Rows.laid_strconv_ErrRange) (by simp [laidQl,Rows.requestChecksRow])
 obtain rfl:=Option.some.inj (gRange.symm.trans h1)
 have ty:∃ t0 ms,(PQ.globals[3]?).map (·.type) = some t0∧PQ.underlying t0 = some (.interface ms):=⟨109,_,by kernel_rfl,Tryz.underlying109⟩
 obtain ⟨t0,ms,g1,g2⟩:=ty
 obtain rfl:=Option.some.inj (g1.symm.trans h2)
 obtain ⟨_,u,v,hcs,_⟩:=iface_of_trod g2 h4
 refine ⟨u,v,?_⟩
 rw [World.var?_cell h1 h3 0,← Array.getElem?_toList,hcs]
 rfl
theorem syn_cell (h:laidMet PQ laidQl W):∃ t v,W.cell? ⟨2,0,none⟩ = some (.iface t v):=by
 obtain ⟨g,t,cs,fuel,p,h1,h2,h3,h4⟩:=Lib.laidMet.reads h (n := "strconv.ErrSyntax") (d:=Rows.laid_strconv_ErrSyntax) (by simp [laidQl,Rows.requestChecksRow])
 obtain rfl:=Option.some.inj (gSyn.symm.trans h1)
 have ty:∃ t0 ms,(PQ.globals[2]?).map (·.type) = some t0∧PQ.underlying t0 = some (.interface ms):=⟨109,_,by kernel_rfl,Tryz.underlying109⟩
 obtain ⟨t0,ms,g1,g2⟩:=ty
 obtain rfl:=Option.some.inj (g1.symm.trans h2)
 obtain ⟨_,u,v,hcs,_⟩:=iface_of_trod g2 h4
 refine ⟨u,v,?_⟩
 rw [World.var?_cell h1 h3 0,← Array.getElem?_toList,hcs]
 rfl
theorem first_cells (h:laidMet PQ laidQl W):∀ i,i < 256→W.cell? ⟨5,i,none⟩ = some (.int .u8 (Lib.firstT i)):=by
 obtain ⟨g,t,cs,fuel,p,h1,h2,h3,h4⟩:=Lib.laidMet.reads h (n := "unicode/utf8.first") (d:=Rows.laid_unicode_utf8_first) (by simp [laidQl,Rows.requestChecksRow])
 obtain rfl:=Option.some.inj (gFirst.symm.trans h1)
 have ty:∃ t0 e,(PQ.globals[5]?).map (·.type) = some t0∧PQ.underlying t0 = some (.array 256 e)∧PQ.underlying e = some (.int .u8)∧PQ.cellsOf e = 1∧PQ.cellsOf t0 = 256:=⟨147,5,by kernel_rfl,by kernel_rfl,by kernel_rfl,by kernel_rfl,by kernel_rfl⟩
 obtain ⟨t0,e,g1,g2,g3,g4,g5⟩:=ty
 obtain rfl:=Option.some.inj (g1.symm.trans h2)
 have hd:Rows.laid_unicode_utf8_first = Lib.tabData .u8 Lib.firstTab:=by kernel_rfl
 rw [hd] at h4
 have hcs:=Lib.cells_of_tab g2 g3 g4 g5 h4
 intro i hi
 rw [World.var?_cell h1 h3 i,← Array.getElem?_toList,hcs]
 simp [Lib.firstTab,hi]
theorem acc_cells (h:laidMet PQ laidQl W):∀ i,i < 16→W.cell? ⟨6,2 * i,none⟩ = some (.int .u8 (Lib.accLo i))∧W.cell? ⟨6,2 * i + 1,none⟩ = some (.int .u8 (Lib.accHi i)):=by
 obtain ⟨g,t,cs,fuel,p,h1,h2,h3,h4⟩:=Lib.laidMet.reads h (n := "unicode/utf8.acceptRanges") (d:=Rows.laid_unicode_utf8_acceptRanges) (by simp [laidQl,Rows.requestChecksRow])
 obtain rfl:=Option.some.inj (gAcc.symm.trans h1)
 have ty:∃ t0 e f0 f1,(PQ.globals[6]?).map (·.type) = some t0∧PQ.underlying t0 = some (.array 16 e)∧PQ.underlying e = some (.struct #[f0,f1])∧PQ.cellsOf e = 2∧PQ.underlying f0.type = some (.int .u8)∧PQ.underlying f1.type = some (.int .u8)∧f0.offset = 0∧f1.offset = 1∧PQ.cellsOf f0.type = 1∧PQ.cellsOf f1.type = 1:=
  ⟨245,244,_,_,by kernel_rfl,by kernel_rfl,Tryz.underlying244,by kernel_rfl,by kernel_rfl,by kernel_rfl,rfl,rfl,by kernel_rfl,by kernel_rfl⟩
 obtain ⟨t0,e,f0,f1,g1,g2,g3,g4,g5,g6,o0,o1,c0,c1⟩:=ty
 obtain rfl:=Option.some.inj (g1.symm.trans h2)
 have hd:Rows.laid_unicode_utf8_acceptRanges = Lib.acceptData:=by kernel_rfl
 rw [hd] at h4
 intro i hi
 obtain ⟨fuel',d,q,hdi,he⟩:=Lib.array_elem g2 h4 i hi
 simp only [List.getElem?_map,List.getElem?_range hi,Option.map_some,Option.some.injEq] at hdi
 subst hdi
 rw [g4] at he
 have hcs:=Lib.ints_of_struct (k:=.u8) g3 (fun j f hj=>by
  match j,hj with
  | 0,hj=>simp at hj; subst hj; exact ⟨g5,o0,c0⟩
  | 1,hj=>simp at hj; subst hj; exact ⟨g6,o1,c1⟩
  | j + 2,hj=>simp at hj) (by rw [g4]; rfl) he
 have e0:=congrArg (·[0]?) hcs
 have e1:=congrArg (·[1]?) hcs
 simp only [List.getElem?_take,List.getElem?_drop] at e0 e1
 constructor
 ·rw [World.var?_cell h1 h3 (2 * i),← Array.getElem?_toList]
  simpa [Nat.mul_comm] using e0
 ·rw [World.var?_cell h1 h3 (2 * i + 1),← Array.getElem?_toList]
  simpa [Nat.mul_comm] using e1
theorem keptAcc_at {j:Nat} (h:j < 32):keptAcc[j]? = some (.int .u8 (if j % 2 = 0 then Lib.accLo (j / 2) else Lib.accHi (j / 2):Nat)):=by
 match j,h with
 | 0,_=>show some (AV.int .u8 128) = some (.int .u8 (if 0 % 2 = 0 then Lib.accLo (0 / 2) else Lib.accHi (0 / 2):Nat)); simp [Lib.accLo]
 | 1,_=>show some (AV.int .u8 191) = some (.int .u8 (if 1 % 2 = 0 then Lib.accLo (1 / 2) else Lib.accHi (1 / 2):Nat)); simp [Lib.accHi]
 | 2,_=>show some (AV.int .u8 160) = some (.int .u8 (if 2 % 2 = 0 then Lib.accLo (2 / 2) else Lib.accHi (2 / 2):Nat)); simp [Lib.accLo]
 | 3,_=>show some (AV.int .u8 191) = some (.int .u8 (if 3 % 2 = 0 then Lib.accLo (3 / 2) else Lib.accHi (3 / 2):Nat)); simp [Lib.accHi]
 | 4,_=>show some (AV.int .u8 128) = some (.int .u8 (if 4 % 2 = 0 then Lib.accLo (4 / 2) else Lib.accHi (4 / 2):Nat)); simp [Lib.accLo]
 | 5,_=>show some (AV.int .u8 159) = some (.int .u8 (if 5 % 2 = 0 then Lib.accLo (5 / 2) else Lib.accHi (5 / 2):Nat)); simp [Lib.accHi]
 | 6,_=>show some (AV.int .u8 144) = some (.int .u8 (if 6 % 2 = 0 then Lib.accLo (6 / 2) else Lib.accHi (6 / 2):Nat)); simp [Lib.accLo]
 | 7,_=>show some (AV.int .u8 191) = some (.int .u8 (if 7 % 2 = 0 then Lib.accLo (7 / 2) else Lib.accHi (7 / 2):Nat)); simp [Lib.accHi]
 | 8,_=>show some (AV.int .u8 128) = some (.int .u8 (if 8 % 2 = 0 then Lib.accLo (8 / 2) else Lib.accHi (8 / 2):Nat)); simp [Lib.accLo]
 | 9,_=>show some (AV.int .u8 143) = some (.int .u8 (if 9 % 2 = 0 then Lib.accLo (9 / 2) else Lib.accHi (9 / 2):Nat)); simp [Lib.accHi]
 | 10,_=>show some (AV.int .u8 0) = some (.int .u8 (if 10 % 2 = 0 then Lib.accLo (10 / 2) else Lib.accHi (10 / 2):Nat)); simp [Lib.accLo]
 | 11,_=>show some (AV.int .u8 0) = some (.int .u8 (if 11 % 2 = 0 then Lib.accLo (11 / 2) else Lib.accHi (11 / 2):Nat)); simp [Lib.accHi]
 | 12,_=>show some (AV.int .u8 0) = some (.int .u8 (if 12 % 2 = 0 then Lib.accLo (12 / 2) else Lib.accHi (12 / 2):Nat)); simp [Lib.accLo]
 | 13,_=>show some (AV.int .u8 0) = some (.int .u8 (if 13 % 2 = 0 then Lib.accLo (13 / 2) else Lib.accHi (13 / 2):Nat)); simp [Lib.accHi]
 | 14,_=>show some (AV.int .u8 0) = some (.int .u8 (if 14 % 2 = 0 then Lib.accLo (14 / 2) else Lib.accHi (14 / 2):Nat)); simp [Lib.accLo]
 | 15,_=>show some (AV.int .u8 0) = some (.int .u8 (if 15 % 2 = 0 then Lib.accLo (15 / 2) else Lib.accHi (15 / 2):Nat)); simp [Lib.accHi]
 | 16,_=>show some (AV.int .u8 0) = some (.int .u8 (if 16 % 2 = 0 then Lib.accLo (16 / 2) else Lib.accHi (16 / 2):Nat)); simp [Lib.accLo]
 | 17,_=>show some (AV.int .u8 0) = some (.int .u8 (if 17 % 2 = 0 then Lib.accLo (17 / 2) else Lib.accHi (17 / 2):Nat)); simp [Lib.accHi]
 | 18,_=>show some (AV.int .u8 0) = some (.int .u8 (if 18 % 2 = 0 then Lib.accLo (18 / 2) else Lib.accHi (18 / 2):Nat)); simp [Lib.accLo]
 | 19,_=>show some (AV.int .u8 0) = some (.int .u8 (if 19 % 2 = 0 then Lib.accLo (19 / 2) else Lib.accHi (19 / 2):Nat)); simp [Lib.accHi]
 | 20,_=>show some (AV.int .u8 0) = some (.int .u8 (if 20 % 2 = 0 then Lib.accLo (20 / 2) else Lib.accHi (20 / 2):Nat)); simp [Lib.accLo]
 | 21,_=>show some (AV.int .u8 0) = some (.int .u8 (if 21 % 2 = 0 then Lib.accLo (21 / 2) else Lib.accHi (21 / 2):Nat)); simp [Lib.accHi]
 | 22,_=>show some (AV.int .u8 0) = some (.int .u8 (if 22 % 2 = 0 then Lib.accLo (22 / 2) else Lib.accHi (22 / 2):Nat)); simp [Lib.accLo]
 | 23,_=>show some (AV.int .u8 0) = some (.int .u8 (if 23 % 2 = 0 then Lib.accLo (23 / 2) else Lib.accHi (23 / 2):Nat)); simp [Lib.accHi]
 | 24,_=>show some (AV.int .u8 0) = some (.int .u8 (if 24 % 2 = 0 then Lib.accLo (24 / 2) else Lib.accHi (24 / 2):Nat)); simp [Lib.accLo]
 | 25,_=>show some (AV.int .u8 0) = some (.int .u8 (if 25 % 2 = 0 then Lib.accLo (25 / 2) else Lib.accHi (25 / 2):Nat)); simp [Lib.accHi]
 | 26,_=>show some (AV.int .u8 0) = some (.int .u8 (if 26 % 2 = 0 then Lib.accLo (26 / 2) else Lib.accHi (26 / 2):Nat)); simp [Lib.accLo]
 | 27,_=>show some (AV.int .u8 0) = some (.int .u8 (if 27 % 2 = 0 then Lib.accLo (27 / 2) else Lib.accHi (27 / 2):Nat)); simp [Lib.accHi]
 | 28,_=>show some (AV.int .u8 0) = some (.int .u8 (if 28 % 2 = 0 then Lib.accLo (28 / 2) else Lib.accHi (28 / 2):Nat)); simp [Lib.accLo]
 | 29,_=>show some (AV.int .u8 0) = some (.int .u8 (if 29 % 2 = 0 then Lib.accLo (29 / 2) else Lib.accHi (29 / 2):Nat)); simp [Lib.accHi]
 | 30,_=>show some (AV.int .u8 0) = some (.int .u8 (if 30 % 2 = 0 then Lib.accLo (30 / 2) else Lib.accHi (30 / 2):Nat)); simp [Lib.accLo]
 | 31,_=>show some (AV.int .u8 0) = some (.int .u8 (if 31 % 2 = 0 then Lib.accLo (31 / 2) else Lib.accHi (31 / 2):Nat)); simp [Lib.accHi]
 | j + 32,h=>exact absurd h (by omega)
theorem globQA (h:laidMet PQ laidQl W) (hsh:W.ShapedOpen PQ) {m:Int} (hm:W.cell? ⟨0,0,none⟩ = some (.int .i64 m)):GlobOk (GQ m) (oldE W) W:=by
 refine globA (fun g e hg=>?_) fun g e hg=>?_
 ·match g,hg with
  | 1,hg =>
   simp only [GQ,Option.some.injEq] at hg
   subst hg
   refine ⟨rfl,fun j c hj=>?_⟩
   have hlt:j < 7:=(List.getElem?_eq_some_iff.1 hj).1
   refine ⟨_,tens_cells h j hlt,?_,rfl⟩
   have:c = .int .i64 (10 ^ j):=by
    match j,hlt with
    | 0,_ | 1,_ | 2,_ | 3,_ | 4,_ | 5,_ | 6,_=>simp [tensA,AV.cells] at hj; subst hj; rfl
   subst this
   exact .int _ _
  | 0,hg =>
   simp only [GQ,Option.some.injEq] at hg
   subst hg
   refine ⟨rfl,fun j c hj=>?_⟩
   match j,hj with
   | 0,hj=>simp [AV.cells] at hj; subst hj; exact ⟨_,hm,.int _ _,rfl⟩
   | j + 1,hj=>simp [AV.cells] at hj
  | 2,hg =>
   simp only [GQ,Option.some.injEq] at hg
   subst hg
   refine ⟨rfl,fun j c hj=>?_⟩
   match j,hj with
   | 0,hj =>
    simp [AV.cells] at hj; subst hj
    obtain ⟨t,v,hv⟩:=syn_cell h
    exact ⟨_,hv,.ifc _ _,rfl⟩
   | j + 1,hj=>simp [AV.cells] at hj
  | 3,hg =>
   simp only [GQ,Option.some.injEq] at hg
   subst hg
   refine ⟨rfl,fun j c hj=>?_⟩
   match j,hj with
   | 0,hj =>
    simp [AV.cells] at hj; subst hj
    obtain ⟨t,v,hv⟩:=range_cell h
    exact ⟨_,hv,.ifc _ _,rfl⟩
   | j + 1,hj=>simp [AV.cells] at hj
  | 5,hg =>
   simp only [GQ,Option.some.injEq] at hg
   subst hg
   refine ⟨?_,fun j c hj=>?_⟩
   ·simp only [keptFirstA,AV.closed1,keptFirst,List.all_map,List.all_eq_true]
    intro x _; rfl
   ·have hlt:j < 256:=by
     have:=(List.getElem?_eq_some_iff.1 hj).1
     simpa [keptFirstA,AV.cells,keptFirst] using this
    refine ⟨_,first_cells h j hlt,?_,rfl⟩
    have:c = .int .u8 (Lib.firstT j):=by
     simp only [keptFirstA,AV.cells,keptFirst,List.getElem?_map,List.getElem?_range hlt,Option.map_some,Option.some.injEq] at hj
     exact hj.symm
    subst this
    exact .int _ _
  | 6,hg =>
   simp only [GQ,Option.some.injEq] at hg
   subst hg
   refine ⟨rfl,fun j c hj=>?_⟩
   have hlt:j < 32:=(List.getElem?_eq_some_iff.1 hj).1
   have key:W.cell? ⟨6,j,none⟩ = some (.int .u8 (if j % 2 = 0 then Lib.accLo (j / 2) else Lib.accHi (j / 2))):=by
    obtain ⟨a1,a2⟩:=acc_cells h (j / 2) (by omega)
    by_cases hp:j % 2 = 0
    ·rw [if_pos hp,show j = 2 * (j / 2) by omega,a1]
     congr 4; omega
    ·rw [if_neg hp]
     conv=>lhs; rw [show j = 2 * (j / 2) + 1 by omega]
     rw [a2]
   refine ⟨_,key,?_,rfl⟩
   have h2:=keptAcc_at hlt
   have h3:keptAcc[j]? = some c:=hj
   rw [h3] at h2
   injection h2 with h2
   subst h2
   by_cases hp:j % 2 = 0
   ·simp only [hp,if_true]; exact .int _ _
   ·simp only [hp,if_false]; exact .int _ _
  | 4,hg =>
   simp only [GQ,Option.some.injEq] at hg
   subst hg
   refine ⟨?_,fun j c hj=>?_⟩
   ·simp only [keptPowsA,AV.closed1,keptPows,List.all_map,List.all_eq_true]
    intro x _; rfl
   ·have hlt:j < 20:=by
     have:=(List.getElem?_eq_some_iff.1 hj).1
     simpa [keptPowsA,AV.cells,keptPows] using this
    refine ⟨_,pow_cells h j hlt,?_,rfl⟩
    have:c = .int .u64 ((10 ^ j:Nat):Int):=by
     simp only [keptPowsA,AV.cells,keptPows,List.getElem?_map,List.getElem?_range hlt,Option.map_some,Option.some.injEq] at hj
     exact hj.symm
    subst this
    exact .int _ _
  | g + 7,hg=>cases hg
 ·match g,hg with
  | 1,hg =>
   simp only [GQ,Option.some.injEq] at hg
   subst hg
   exact glob_size hsh (n:=7) (by rw [nGlob]; omega) (by kernel_rfl)
  | 0,hg =>
   simp only [GQ,Option.some.injEq] at hg
   subst hg
   exact glob_size hsh (n:=1) (by rw [nGlob]; omega) (by kernel_rfl)
  | 2,hg =>
   simp only [GQ,Option.some.injEq] at hg
   subst hg
   exact glob_size hsh (n:=1) (by rw [nGlob]; omega) (by kernel_rfl)
  | 3,hg =>
   simp only [GQ,Option.some.injEq] at hg
   subst hg
   exact glob_size hsh (n:=1) (by rw [nGlob]; omega) (by kernel_rfl)
  | 5,hg =>
   simp only [GQ,Option.some.injEq] at hg
   subst hg
   have:=glob_size (P:=PQ) hsh (g:=5) (n:=256) (by rw [nGlob]; omega) (by kernel_rfl)
   have hn:keptFirstA.cells.length = 256:=by simp [keptFirstA,AV.cells,keptFirst]
   rw [hn]; exact this
  | 6,hg =>
   simp only [GQ,Option.some.injEq] at hg
   subst hg
   exact glob_size hsh (n:=32) (by rw [nGlob]; omega) (by kernel_rfl)
  | 4,hg =>
   simp only [GQ,Option.some.injEq] at hg
   subst hg
   have:=glob_size (P:=PQ) hsh (g:=4) (n:=20) (by rw [nGlob]; omega) (by kernel_rfl)
   have hn:keptPowsA.cells.length = 20:=by simp [keptPowsA,AV.cells,keptPows]
   rw [hn]; exact this
  | g + 7,hg=>cases hg
end
end Go.Abs
