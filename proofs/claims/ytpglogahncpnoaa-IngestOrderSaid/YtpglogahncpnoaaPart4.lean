/- Own texts, part 4. -/
import Derived.Test.YtpglogahncpnoaaPart3
import Derived.Lib.SlKeysI
import Derived.Sort.Walk0
import Derived.Laws.IdiomCopy
import Derived.Test.YtpglogahncpnoaaProg
import Derived.Test.YtpglogahncpnoaaChecked
import Derived.Test.YtpglogahncpnoaaShelf
import Derived.KernelRfl
import Derived.Lib.IndexMore
import Derived.Lib.IndexBytes
import Derived.Deep.LoopGhost
import Derived.WalkKit
import Derived.Lib.Walk
import Derived.Lib.Hide
import Derived.Lib.SliceRun
import Derived.Shelf.RegionOpenPlain
import Derived.Lib.JoinLaws
import Derived.Lib.AppendZeros
import Derived.Lib.AppendZerosOnto
import Derived.Lib.Overlaps
import Derived.Laws.Externs
import Derived.Shelf.SlIter.Nil
import Derived.Shelf.SlIterI.Sorted
import Derived.Shelf.SlIterI.Keys
import Derived.Shelf.SlIterI.Collect
import Derived.Shelf.SortM.Plain
import Derived.Shelf.SortM.SortNone
import Derived.Ground.GgzProg
import Derived.Ground.SlgmProg
import Derived.Laws.Bits64

namespace Go.Abs
open Go.Proofs Go.RowKit Go.Maps Go.Sort
variable {P : Program} {G : Glob} {E : Env} {w w' : World}
theorem res_row {α:Type} {enc:α→Value} {av:α→AV} (hav:∀ x (E:Env) (w:World),Rep E w (av x) (enc x)) (hac:∀ x,(av x).closed = true) (hao:∀ x,(enc x).oneCell' = true) [Inhabited α] {e:TypeId} {v:Value} {n:Nat} {ss:List α} (hb:Below w.heap.size w w') (hn:n = ss.length) (hown:w'.ownsRow w.heap.size e 1 v n (ss.map enc)):Res P E w w' (.sl 1 (ss.map av) .no) [] v:=by
 subst hn
 refine ⟨fun b o=>E.I b o∨(v.ownBlock = some b∧o < ss.length),fun b o h=>.inl h,fun b o h=>?_,hb,.inl ⟨rfl,fun B K=>?_⟩⟩
 ·rcases h with h | ⟨h,_⟩
  ·exact .inl h
  ·exact .inr (hown.lt b h)
 ·have hcl:∀ e ∈ ss.map av,e.closed1 = true:=fun e he=>by obtain ⟨s,_,rfl⟩:=List.mem_map.1 he; exact closed_closed1 (hac s)
  have hsz:∀ e ∈ ss.map av,e.cells.length = 1:=fun e he=>by obtain ⟨s,_,rfl⟩:=List.mem_map.1 he; rw [closed_cells (hac s)]; rfl
  have hrep:∀ (E':Env) (i:Nat) (e:AV) (j:Nat) (c:AV),(ss.map av)[i]? = some e→e.cells[j]? = some c→Rep E' w' c (enc (ss.getD i default)):=fun E' i e j c hi hj=>by
   rw [List.getElem?_map] at hi
   cases hs:ss[i]? with
   | none=>simp [hs] at hi
   | some s =>
    simp [hs] at hi; subst hi
    rw [closed_cells (hac s)] at hj
    match j,hj with
    | 0,hj =>
     simp at hj; subst hj
     have:ss.getD i default = s:=by rw [List.getD_eq_getElem?_getD,hs]; rfl
     rw [this]
     exact hav s _ _
    | j + 1,hj=>simp at hj
  have hlen:(ss.map av).length = ss.length:=List.length_map ..
  rcases hown.2 with ⟨rfl,hz⟩ | ⟨g,cap,cur,rfl,hbase,hbk,h1,h2,h3,h4⟩
  ·have hss:ss = []:=by
    have:=hown.1
    rw [hz] at this
    simpa using this
   subst hss
   exact .sl 1 [] .no none 0 (fun _ _=>.bool true) (Nat.le_refl _) (Nat.zero_le _) (.inl rfl) (by simp) (by simp) trivial (by simp) (fun _ _=>rfl)
  ·rw [← hlen]
   refine .sl 1 _ .no _ cap (fun i j=>enc (ss.getD i default)) (by rw [hlen]; exact h1) h2 (.inr ⟨g,0,rfl,fun i e j c hi hj=>?_⟩) hsz hcl trivial (hrep _) (fun i j=>hao _)
   have hi':i < ss.length:=by rw [← hlen]; exact (List.getElem?_eq_some_iff.1 hi).1
   have hj0:j = 0:=by
    have:=hsz e (List.mem_of_getElem? hi)
    have:=(List.getElem?_eq_some_iff.1 hj).1
    omega
   subst hj0
   refine ⟨.inr ⟨rfl,by omega⟩,?_⟩
   have e1:(cur.toList.take (ss.length * 1))[i]? = (ss.map enc)[i]?:=by rw [h4]
   rw [List.getElem?_take_of_lt (by omega),List.getElem?_map,List.getElem?_eq_getElem hi'] at e1
   have e2:ss.getD i default = ss[i]:=by rw [List.getD_eq_getElem?_getD,List.getElem?_eq_getElem hi']; rfl
   simp only [Nat.zero_add,Nat.mul_one,Nat.add_zero]
   rw [e2]
   simp only [World.cell?,hbk]
   simp only [Option.isSome_none,Bool.false_eq_true,if_false]
   rw [← Array.getElem?_toList,e1]
   rfl
def keysM:List AV→List (List UInt8)
 | []=>[]
 | .tup [.str s,_] :: es=>s :: keysM es
 | _ :: es=>keysM es
def insS (x:List UInt8):List (List UInt8)→List (List UInt8)
 | []=>[x]
 | y :: t=>if Op.bytesLess y x then y :: insS x t else x :: y :: t
def keptSort:List (List UInt8)→List (List UInt8)
 | []=>[]
 | x :: t=>insS x (keptSort t)
theorem insS_perm (x:List UInt8):∀ l,(insS x l).Perm (x :: l)
 | []=>List.Perm.refl _
 | y :: t=>by
  unfold insS
  split
  ·exact ((insS_perm x t).cons y).trans (List.Perm.swap x y t)
  ·exact List.Perm.refl _
theorem keptSort_perm:∀ l,(keptSort l).Perm l
 | []=>List.Perm.refl _
 | x :: t=>(insS_perm x _).trans ((keptSort_perm t).cons x)
theorem leB_iff (x y:List UInt8):leB x y = true ↔ Op.bytesLess y x = false:=by
 rw [bytesLess_eq,decide_eq_false_iff_not,leB,decide_eq_true_eq]; exact Iff.rfl
theorem insS_sorted (x:List UInt8):∀ l:List (List UInt8),l.Pairwise (fun a b=>leB a b = true)→(insS x l).Pairwise (fun a b=>leB a b = true)
 | [],_=>by simp [insS]
 | y :: t,h=>by
  obtain ⟨h1,h2⟩:=List.pairwise_cons.1 h
  unfold insS
  split
  ·rename_i hlt
   refine List.pairwise_cons.2 ⟨fun z hz=>?_,insS_sorted x t h2⟩
   rcases List.mem_cons.1 ((insS_perm x t).mem_iff.1 hz) with rfl | hz
   ·rw [bytesLess_eq,decide_eq_true_eq] at hlt
    simp only [leB,decide_eq_true_eq]; exact List.le_of_lt hlt
   ·exact h1 z hz
  ·rename_i hlt
   have hxy:leB x y = true:=(leB_iff x y).2 (by simpa using hlt)
   refine List.pairwise_cons.2 ⟨fun z hz=>?_,h⟩
   rcases List.mem_cons.1 hz with rfl | hz
   ·exact hxy
   ·have:=h1 z hz
    simp only [leB,decide_eq_true_eq] at *
    exact List.le_trans hxy this
theorem keptSort_sorted:∀ l,(keptSort l).Pairwise (fun a b=>leB a b = true)
 | []=>List.Pairwise.nil
 | x :: t=>insS_sorted x _ (keptSort_sorted t)
theorem keptSort_eq (l:List (List UInt8)):keptSort l = l.mergeSort leB:=by
 have tr:∀ a b c:List UInt8,leB a b = true→leB b c = true→leB a c = true:=fun a b c h1 h2=>by simp only [leB,decide_eq_true_eq] at *; exact List.le_trans h1 h2
 have tot:∀ a b:List UInt8,(leB a b || leB b a) = true:=fun a b=>by simp only [leB,Bool.or_eq_true,decide_eq_true_eq]; exact List.le_total a b
 refine List.Perm.eq_of_pairwise (le:=fun a b=>leB a b = true) (fun a b _ _ h1 h2=>?_) (keptSort_sorted l) (List.pairwise_mergeSort tr tot l) ((keptSort_perm l).trans (List.mergeSort_perm l leB).symm)
 simp only [leB,decide_eq_true_eq] at h1 h2
 exact List.le_antisymm h1 h2
theorem pairKey_none {k:TypeId} (h:∀ fs,P.underlying k ≠ some (.struct fs)):pairKey P k = none:=by
 cases hp:pairKey P k with
 | none=>rfl
 | some q =>
  obtain ⟨fs,_,_,hu,_⟩:=pairKey_some hp
  exact absurd hu (h fs)
theorem keyL_agg {k:TypeId} (h:∀ fs,P.underlying k ≠ some (.struct fs)) (cs:List AV):keyL P k (.agg cs) = none:=by
 have:=pairKey_none h
 unfold keyL
 split
 all_goals first | rfl | (rename_i heq; cases heq; done) | (simp only [this]; done)
theorem keyL_str {k:TypeId} (hk:P.underlying k = some .string) {s:List UInt8} (h:s.length≤maxLen):keyL P k (.str s) = some (.string s):=by
 simp only [keyL,hk,if_pos h]
theorem good_str {k:TypeId} (hk:P.underlying k = some .string) {es:List AV} (hg:GoodM P k es):∀ e ∈ es,∃ s v,e = .tup [.str s,v]∧s.length≤maxLen:=fun e he=>by
 obtain ⟨a,v,kl,d,rfl,h1,_⟩:=hg e he
 have hna:=fun cs=>keyL_agg (P:=P) (k:=k) (by simp [hk]) cs
 cases a
 case agg cs=>rw [hna cs] at h1; cases h1
 all_goals simp [keyL,hk] at h1
 exact ⟨_,v,rfl,h1.1⟩
theorem look_keys {k:TypeId} (hk:P.underlying k = some .string) {es:List AV} (hg:GoodM P k es) (x:List UInt8):(lookM es (.str x)).isSome = true ↔ x ∈ keysM es:=by
 induction es with
 | nil=>simp [lookM,keysM]
 | cons e es ih =>
  obtain ⟨s,v,rfl,_⟩:=good_str hk hg e (by simp)
  have ih:=ih fun e he=>hg e (by simp [he])
  simp only [lookM,keysM,List.mem_cons]
  by_cases hx:s = x
  ·subst hx; rw [if_pos (by simp [keyEq])]; simp
  ·rw [if_neg (by simpa [keyEq] using hx),ih]
   simp [Ne.symm hx]
theorem keys_le {k:TypeId} (hk:P.underlying k = some .string) {es:List AV} (hg:GoodM P k es):∀ x ∈ keysM es,x.length≤maxLen:=by
 induction es with
 | nil=>intro x hx; simp [keysM] at hx
 | cons e es ih =>
  obtain ⟨s,v,rfl,hl⟩:=good_str hk hg e (by simp)
  intro x hx
  simp only [keysM,List.mem_cons] at hx
  rcases hx with rfl | hx
  ·exact hl
  ·exact ih (fun e he=>hg e (by simp [he])) x hx
theorem keys_perm {k:TypeId} (hkk:P.underlying k = some .string) {es:List AV} {D:DataW Unit} {b n:Nat} (hg:GoodM P k es) (hD:MapRel P k es D) (ho:w.ownsMap P k rdE b n D) (hnd:(keysM es).Nodup):(keysM es).Perm (strKeys D):=by
 obtain ⟨fs,rfl,hpw,_⟩:=ho.entries (string_keyed hkk)
 obtain ⟨fs',hD',hko⟩:=ho.keysOf
 obtain rfl:fs = fs':=by simpa using hD'
 have hk:∀ p ∈ fs,∃ x,p.1 = .string x∧x.length≤maxLen:=fun p hp=>by
  obtain ⟨v,hv⟩:=hko p hp
  obtain ⟨x,_,hx,hl⟩:=Maps.keyOf_str hkk hv
  exact ⟨x,hx,hl⟩
 refine perm_strKeys hpw (fun p hp=>by obtain ⟨x,hx,_⟩:=hk p hp; exact ⟨x,hx⟩) hnd fun x=>?_
 by_cases hl:x.length≤maxLen
 ·rw [← look_keys hkk hg x,has_of hD hg (keyL_str hkk hl)]
 ·constructor
  ·intro hx; exact absurd (keys_le hkk hg x hx) hl
  ·intro hx
   rw [has_eq,List.any_eq_true] at hx
   obtain ⟨p,hp,hs⟩:=hx
   obtain ⟨y,hy,hly⟩:=hk p hp
   rw [hy] at hs
   have:y = x:=by simpa [Lit.sameKey] using hs
   subst this; exact absurd hly hl
def keysZ:List AV→List Int
 | []=>[]
 | .tup [.int _ s,_] :: es=>s :: keysZ es
 | _ :: es=>keysZ es
def insZ (x:Int):List Int→List Int
 | []=>[x]
 | y :: t=>if y < x then y :: insZ x t else x :: y :: t
def sortZ:List Int→List Int
 | []=>[]
 | x :: t=>insZ x (sortZ t)
theorem insZ_perm (x:Int):∀ l,(insZ x l).Perm (x :: l)
 | []=>List.Perm.refl _
 | y :: t=>by
  unfold insZ
  split
  ·exact ((insZ_perm x t).cons y).trans (List.Perm.swap x y t)
  ·exact List.Perm.refl _
theorem sortZ_perm:∀ l,(sortZ l).Perm l
 | []=>List.Perm.refl _
 | x :: t=>(insZ_perm x _).trans ((sortZ_perm t).cons x)
theorem insZ_sorted (x:Int):∀ l:List Int,l.Pairwise (fun a b=>leI a b = true)→(insZ x l).Pairwise (fun a b=>leI a b = true)
 | [],_=>by simp [insZ]
 | y :: t,h=>by
  obtain ⟨h1,h2⟩:=List.pairwise_cons.1 h
  unfold insZ
  split
  ·rename_i hlt
   refine List.pairwise_cons.2 ⟨fun z hz=>?_,insZ_sorted x t h2⟩
   rcases List.mem_cons.1 ((insZ_perm x t).mem_iff.1 hz) with rfl | hz
   ·simp only [leI,decide_eq_true_eq]; omega
   ·exact h1 z hz
  ·rename_i hlt
   have hxy:leI x y = true:=by simp only [leI,decide_eq_true_eq]; omega
   refine List.pairwise_cons.2 ⟨fun z hz=>?_,h⟩
   rcases List.mem_cons.1 hz with rfl | hz
   ·exact hxy
   ·have:=h1 z hz
    simp only [leI,decide_eq_true_eq] at *
    omega
theorem sortZ_sorted:∀ l,(sortZ l).Pairwise (fun a b=>leI a b = true)
 | []=>List.Pairwise.nil
 | x :: t=>insZ_sorted x _ (sortZ_sorted t)
theorem sortZ_eq (l:List Int):sortZ l = l.mergeSort leI:=by
 have tr:∀ a b c:Int,leI a b = true→leI b c = true→leI a c = true:=fun a b c h1 h2=>by simp only [leI,decide_eq_true_eq] at *; omega
 have tot:∀ a b:Int,(leI a b || leI b a) = true:=fun a b=>by simp only [leI,Bool.or_eq_true,decide_eq_true_eq]; omega
 refine List.Perm.eq_of_pairwise (le:=fun a b=>leI a b = true) (fun a b _ _ h1 h2=>?_) (sortZ_sorted l) (List.pairwise_mergeSort tr tot l) ((sortZ_perm l).trans (List.mergeSort_perm l leI).symm)
 simp only [leI,decide_eq_true_eq] at h1 h2
 omega
theorem keyL_i64 {k:TypeId} (hk:P.underlying k = some (.int .i64)) {x:Int} (h:(Lit.int .i64 x).wf = true):keyL P k (.int .i64 x) = some (.int .i64 x):=by
 simp only [keyL,hk]; simp [h]
theorem good_i64 {k:TypeId} (hk:P.underlying k = some (.int .i64)) {es:List AV} (hg:GoodM P k es):∀ e ∈ es,∃ s v,e = .tup [.int .i64 s,v]∧(Lit.int .i64 s).wf = true:=fun e he=>by
 obtain ⟨a,v,kl,d,rfl,h1,_⟩:=hg e he
 cases a with
 | int q n =>
  simp only [keyL,hk] at h1
  split at h1
  ·rename_i h
   obtain ⟨rfl,h⟩:=h
   exact ⟨_,v,rfl,h⟩
  ·cases h1
 | agg cs=>rw [keyL_agg (P:=P) (k:=k) (by simp [hk]) cs] at h1; cases h1
 | _=>simp [keyL,hk] at h1
theorem look_keysZ {k:TypeId} (hk:P.underlying k = some (.int .i64)) {es:List AV} (hg:GoodM P k es) (x:Int):(lookM es (.int .i64 x)).isSome = true ↔ x ∈ keysZ es:=by
 induction es with
 | nil=>simp [lookM,keysZ]
 | cons e es ih =>
  obtain ⟨s,v,rfl,_⟩:=good_i64 hk hg e (by simp)
  have ih:=ih fun e he=>hg e (by simp [he])
  simp only [lookM,keysZ,List.mem_cons]
  by_cases hx:s = x
  ·subst hx; rw [if_pos (by simp [keyEq])]; simp
  ·rw [if_neg (by simpa [keyEq] using hx),ih]
   simp [Ne.symm hx]
theorem keysZ_wf {k:TypeId} (hk:P.underlying k = some (.int .i64)) {es:List AV} (hg:GoodM P k es):∀ x ∈ keysZ es,(Lit.int .i64 x).wf = true:=by
 induction es with
 | nil=>intro x hx; simp [keysZ] at hx
 | cons e es ih =>
  obtain ⟨s,v,rfl,hl⟩:=good_i64 hk hg e (by simp)
  intro x hx
  simp only [keysZ,List.mem_cons] at hx
  rcases hx with rfl | hx
  ·exact hl
  ·exact ih (fun e he=>hg e (by simp [he])) x hx
theorem keysZ_perm {k:TypeId} (hkk:P.underlying k = some (.int .i64)) {es:List AV} {D:DataW Unit} {b n:Nat} (hg:GoodM P k es) (hD:MapRel P k es D) (ho:w.ownsMap P k rdE b n D) (hnd:(keysZ es).Nodup):(keysZ es).Perm (intKeys D):=by
 obtain ⟨fs,rfl,hpw,_⟩:=ho.entries (int_keyed hkk)
 obtain ⟨fs',hD',hko⟩:=ho.keysOf
 obtain rfl:fs = fs':=by simpa using hD'
 have hk:∀ p ∈ fs,∃ x,p.1 = .int .i64 x∧(Lit.int .i64 x).wf = true:=fun p hp=>by
  obtain ⟨v,hv⟩:=hko p hp
  obtain ⟨x,_,hx,hl⟩:=Maps.keyOf_i64 hkk hv
  exact ⟨x,hx,hl⟩
 refine perm_intKeys hpw (fun p hp=>by obtain ⟨x,hx,_⟩:=hk p hp; exact ⟨x,hx⟩) hnd fun x=>?_
 by_cases hl:(Lit.int .i64 x).wf = true
 ·rw [← look_keysZ hkk hg x,has_of hD hg (keyL_i64 hkk hl)]
 ·constructor
  ·intro hx; exact absurd (keysZ_wf hkk hg x hx) hl
  ·intro hx
   rw [has_eq,List.any_eq_true] at hx
   obtain ⟨p,hp,hs⟩:=hx
   obtain ⟨y,hy,hly⟩:=hk p hp
   rw [hy] at hs
   have:y = x:=by simpa [Lit.sameKey] using hs
   subst this; exact absurd hly hl
def sKeys (g:FuncId):ISpec:=fun args S=>match args with
 | [.mp id]=>some (True,.fn g [.ptr S.boxes.length 0],{ S with boxes:=S.boxes ++ [some [.mp id]] })
 | _=>none
theorem oKeys {f g:FuncId} {tm:TypeId} {n:Nat} (hgd:goodFn P f) (hc:∀ mb W,CallsIn Fence.wide n P f #[.map mb] W fun e w'=>e = .returned (.func (.func g) #[] #[.pointer (some ⟨W.heap.size,0,none⟩)])∧w' = W.alloc (.cells #[.map mb] tm)):ISpecOk P G f (sKeys g):=by
 intro f' args S r S' h
 simp only [lowC] at h
 split at h
 case h_2=>cases h
 rename_i x hx
 split at h
 case isFalse=>cases h
 injection h with h
 split at hx
 case isFalse=>cases hx
 rename_i e
 subst e
 unfold sKeys at hx
 split at hx
 case h_2=>cases hx
 rename_i id
 injection hx with hx
 subst hx
 simp only [Prod.mk.injEq] at h
 obtain ⟨rfl,rfl⟩:=h
 refine ⟨hgd,fun N0 w0 I0 E w vs hS hvs hv=>?_⟩
 obtain ⟨a,rfl⟩:=vs_one hvs
 obtain ⟨blk,rfl,hB⟩:=rep_mp (hv 0 _ _ rfl rfl)
 refine (callsIn_wide.1 (hc (some blk) w)).mono fun e w' ⟨he,hw⟩=>?_
 subst hw
 have hrm:=hS.room 1
 have hbid:(S.boxes ++ List.replicate 1 none)[S.boxes.length]? = some none:=by simp
 obtain ⟨E',h1,h2,h3⟩:=hrm.box_new S.boxes.length hbid [.mp id] #[.map (some blk)] tm rfl rfl (fun i c v hi hv'=>by
  match i,hi,hv' with
  | 0,hi,hv'=>simp at hi hv'; subst hi; subst hv'; exact ⟨.mp id blk hB,rfl⟩
  | i + 1,hi,hv'=>simp at hi)
 refine ⟨_,E',he,?_,h2,.fn g _ _ rfl fun i c v hi hv'=>?_⟩
 ·have e1:(S.boxes ++ List.replicate 1 none).set S.boxes.length (some [.mp id]) = S.boxes ++ [some [.mp id]]:=by simp
  rw [← e1]; exact h1
 ·match i,hi,hv' with
  | 0,hi,hv'=>simp at hi hv'; subst hi; subst hv'; exact .ptr _ _ _ h3
  | i + 1,hi,hv'=>simp at hi
def sSorted (g:FuncId) (t:TypeId) (nd:List AV→Prop) (out:List AV→List AV):ISpec:=fun args S=>match args with
 | [.fn g' [.ptr b 0]]=>if g' = g then (match S.boxes[b]? with
  | some (some [.mp id])=>match mapAt S (.mp id) with
   | some (_,t',n,es)=>if t' = t then some (nd es∧n≤1000000000000,.sl 1 (out es) .no,S) else none
   | none=>none
  | _=>none) else none
 | _=>none
theorem oSorted {f g:FuncId} {t k e:TypeId} {nd:List AV→Prop} {out:List AV→List AV} (hgd:goodFn P f) (hk:keyKind P t = some (k,e))
  (hc:∀ (Bm b nn:Nat) (D0:DataW Unit) (w:World) (E:Env) (es:List AV),nd es→GoodM P k es→MapRel P k es D0→Bm < w.heap.size→w.cell? ⟨Bm,0,none⟩ = some (.map (some b))→w.ownsMap P k rdE b nn D0→nn≤1000000000000 →
   Calls P f #[.func (.func g) #[] #[.pointer (some ⟨Bm,0,none⟩)]] w fun e w'=>∃ v,e = .returned v∧Res P E w w' (.sl 1 (out es) .no) [] v):ISpecOk P G f (sSorted g t nd out):=by
 intro f' args S r S' h
 simp only [lowC] at h
 split at h
 case h_2=>cases h
 rename_i x hx
 split at h
 case isFalse=>cases h
 rename_i hp
 injection h with h
 split at hx
 case isFalse=>cases hx
 rename_i e
 subst e
 unfold sSorted at hx
 split at hx
 case h_2=>cases hx
 rename_i g' b
 split at hx
 case isFalse=>cases hx
 rename_i hg'
 subst hg'
 split at hx
 case h_2=>cases hx
 rename_i id hbx
 split at hx
 case h_2=>cases hx
 rename_i b' t' n es hma
 split at hx
 case isFalse=>cases hx
 rename_i ht
 injection hx with hx
 subst hx
 simp only [Prod.mk.injEq] at h hp
 obtain ⟨rfl,rfl⟩:=h
 obtain ⟨hnd,hn⟩:=hp
 refine ⟨hgd,fun N0 w0 I0 E w vs hS hvs hv=>?_⟩
 obtain ⟨a,rfl⟩:=vs_one hvs
 obtain ⟨us,rfl,hus,huv⟩:=rep_fn (hv 0 _ _ rfl rfl)
 obtain ⟨u,rfl⟩:=vs_one hus
 obtain ⟨Bm,rfl,hBm⟩:=rep_ptr (huv 0 _ _ rfl rfl)
 obtain ⟨Bm',hBm',hbx'⟩:=hS.box b _ hbx
 obtain rfl:Bm = Bm':=by rw [hBm] at hBm'; injection hBm'
 obtain ⟨arr,ty,hh,hsz,hcs⟩:=hbx'.cells rfl
 obtain ⟨m0,rfl⟩:=vs_one hsz
 have hr0:=(hcs 0 _ _ rfl rfl).1
 obtain ⟨blk,D,rfl,hB,h0,hg,hD,ho⟩:=map_at hS hma hk ht hr0
 have hcell:w.cell? ⟨Bm,0,none⟩ = some (.map (some blk)):=by simp [World.cell?,hh]
 refine (hc Bm blk n.toNat D w E es hnd hg hD (hS.Blt b Bm hBm).2.2.1 hcell ho (by omega)).mono fun e w' ⟨v,he,hres⟩=>?_
 obtain ⟨E',h1,h2,h3⟩:=hS.res hres
 exact ⟨v,E',he,by simpa using h1,h2,by simpa using h3⟩
theorem oSortedS {f g:FuncId} {t k e:TypeId} {m:Nat} (hgd:goodFn P f) (hk:keyKind P t = some (k,e)) (hkk:P.underlying k = some .string)
  (hc:∀ (Bm b nn:Nat) (D0:DataW Unit) (w:World) (_:Bm < w.heap.size) (_:w.cell? ⟨Bm,0,none⟩ = some (.map (some b))) (_:w.ownsMap P k rdE b nn D0) (_:Maps.size D0≤maxLen) (_:Maps.size D0 * 16≤140737488355328),
   CallsIn Fence.wide m P f #[.func (.func g) #[] #[.pointer (some ⟨Bm,0,none⟩)]] w fun e w'=>∃ (v:Value) (ss:List (List UInt8)),e = .returned v∧ss.Perm (strKeys D0) ∧
    w'.ownsRow w.heap.size k 1 v ss.length ((ss.mergeSort (fun x y=>decide (x≤y))).map encStr)∧(v = .slice none 0 0 ↔ ss = [])∧Below w.heap.size w w') :
  ISpecOk P G f (sSorted g t (fun es=>(keysM es).Nodup) fun es=>(keptSort (keysM es)).map .str):=by
 refine oSorted hgd hk fun Bm b nn D0 w E es hnd hg hD hBm hm ho hn=>?_
 have hsz:Maps.size D0≤nn:=ho.size_le
 refine (callsIn_wide.1 (hc Bm b nn D0 w hBm hm ho (by unfold maxLen; omega) (by omega))).mono fun e w' ⟨v,ss,he,hp,hown,_,hb⟩=>?_
 have hpm:=keys_perm hkk hg hD ho hnd
 have e1:ss.mergeSort (fun x y=>decide (x≤y)) = keptSort (keysM es):=by rw [keptSort_eq]; exact mergeSort_of_perm (hp.trans hpm.symm)
 rw [e1] at hown
 refine ⟨v,he,res_row (av:=.str) (fun x E w=>.str _ _ (by simp)) (fun _=>rfl) (fun _=>rfl) hb ?_ hown⟩
 rw [(keptSort_perm _).length_eq,hpm.length_eq,hp.length_eq]
theorem oSortedZ {f g:FuncId} {t k e:TypeId} {m:Nat} (hgd:goodFn P f) (hk:keyKind P t = some (k,e)) (hkk:P.underlying k = some (.int .i64))
  (hc:∀ (Bm b nn:Nat) (D0:DataW Unit) (w:World) (_:Bm < w.heap.size) (_:w.cell? ⟨Bm,0,none⟩ = some (.map (some b))) (_:w.ownsMap P k rdE b nn D0) (_:Maps.size D0≤maxLen) (_:Maps.size D0 * 8≤140737488355328),
   CallsIn Fence.wide m P f #[.func (.func g) #[] #[.pointer (some ⟨Bm,0,none⟩)]] w fun e w'=>∃ (v:Value) (ss:List Int),e = .returned v∧ss.Perm (intKeys D0) ∧
    w'.ownsRow w.heap.size k 1 v ss.length ((ss.mergeSort (fun x y=>decide (x≤y))).map encZ)∧(v = .slice none 0 0 ↔ ss = [])∧Below w.heap.size w w') :
  ISpecOk P G f (sSorted g t (fun es=>(keysZ es).Nodup) fun es=>(sortZ (keysZ es)).map (.int .i64)):=by
 refine oSorted hgd hk fun Bm b nn D0 w E es hnd hg hD hBm hm ho hn=>?_
 have hsz:Maps.size D0≤nn:=ho.size_le
 refine (callsIn_wide.1 (hc Bm b nn D0 w hBm hm ho (by unfold maxLen; omega) (by omega))).mono fun e w' ⟨v,ss,he,hp,hown,_,hb⟩=>?_
 have hpm:=keysZ_perm hkk hg hD ho hnd
 have e1:ss.mergeSort (fun x y=>decide (x≤y)) = sortZ (keysZ es):=by rw [sortZ_eq]; exact mergeSort_of_perm_i (hp.trans hpm.symm)
 rw [e1] at hown
 refine ⟨v,he,res_row (av:=.int .i64) (fun x E w=>.int _ _) (fun _=>rfl) (fun _=>rfl) hb ?_ hown⟩
 rw [(sortZ_perm _).length_eq,hpm.length_eq,hp.length_eq]
end Go.Abs
namespace Go.Abs
open Go.Proofs Go.RowKit
section
variable {P : Program} {E : Env} {w w' : World} {G : Glob} {N0 : Nat → Prop} {w0 : World} {I0 : Nat → Nat → Prop} {S : St}
theorem SR.take_row (hS:SR P G N0 w0 I0 S E w) {e:TypeId} {sz n:Nat} {v:Value} {xs:List Value} {es:List AV} (hb:Below w.heap.size w w') (hown:w'.ownsRow w.heap.size e sz v n xs) (hv:v ≠ .slice none 0 0) (_hn:es.length = n) (hvals:Vals E w sz es xs) :
  ∃ E',SR P G N0 w0 I0 { S with boxes:=S.boxes ++ [some (ownC sz es)] } E' w'∧Env.Le E E' w w'∧Rep E' w' (.ms S.boxes.length sz n) v:=by
 rcases hown.2 with ⟨hv',_⟩ | ⟨g,cap,cur,rfl,hbase,hbk,h1,h2,h3,h4⟩
 ·exact absurd hv' hv
 obtain ⟨hS1,hL1⟩:=hS.ext hb (I':=E.I) (fun _ _ h=>h) (fun _ _ h=>.inl h)
 have hrm:=hS1.room 1
 have hbid:(S.boxes ++ List.replicate 1 none)[S.boxes.length]? = some none:=by simp
 have hgl:g < w'.heap.size:=(Array.getElem?_eq_some_iff.1 hbk).1
 have hvals':=hvals.le hL1
 obtain ⟨E',hS2,hL2,hB⟩:=hrm.box_take S.boxes.length hbid (ownC sz es) g (fun hq=>by have:=hS.n0 g hq; omega) hgl (fun o ho=>by have:=hS.Ilt g o ho; omega) (fun id he=>by have:=(hS.Blt id g he).2.2.1; omega)
  (fun t n v hk hg=>by have:=hS.Kblk t n v hk g hg; omega)
  (.own sz es true cur e rfl hbk hvals'.2.1 hvals'.2.2.1 (fun i e j c hi hj=>by
   obtain ⟨u,hu,hr⟩:=hvals'.2.2.2.2 i e j c hi hj
   refine ⟨u,?_,hr,hvals'.2.2.2.1 u (List.mem_of_getElem? hu)⟩
   have hlt:=(List.getElem?_eq_some_iff.1 hu).1
   rw [← h4,List.getElem?_take] at hu
   split at hu
   ·rw [← Array.getElem?_toList]; exact hu
   ·cases hu) (fun hf=>by cases hf))
 refine ⟨E',?_,hL1.trans hL2,.ms _ _ _ g cap hB h1 h2 ?_⟩
 ·have e1:(S.boxes ++ List.replicate 1 none).set S.boxes.length (some (ownC sz es)) = S.boxes ++ [some (ownC sz es)]:=by simp
  rw [← e1]; exact hS2
 ·unfold rowsOf; rw [hbk]; simp only; rw [h3]; exact Nat.le_refl _
end
section
variable {P : Program} {G : Glob}
theorem ISpecOk.mono {f:FuncId} {s s':ISpec} (hs:ISpecOk P G f s) (h:∀ args S p r,s' args S = some (p,r)→p→∃ p',s args S = some (p',r)∧p'):ISpecOk P G f s':=by
 intro g args S r S' hr
 simp only [lowC] at hr
 by_cases e:g = f
 ·subst e
  simp only [if_true] at hr
  split at hr
  case h_2=>cases hr
  rename_i x hx
  split at hr
  case isFalse=>cases hr
  rename_i hp
  injection hr with hr
  obtain ⟨p',h1,h2⟩:=h args S x.1 x.2 hx hp
  refine hs g args S r S' ?_
  simp only [lowC,if_true,h1]
  rw [if_pos h2,hr]
 ·simp only [if_neg e] at hr
  cases hr
def sClone (sz bytes:Nat):ISpec:=fun args S=>match args with
 | [.sl sz' es _]=>if es.isEmpty then some (True,.sl sz [] .full,S) else if sz' = sz then some (es.length * bytes≤140737488355328,.ms S.boxes.length sz es.length,{ S with boxes:=S.boxes ++ [some (ownC sz es)] }) else none
 | _=>none
def sCloneN (sz bytes:Nat):ISpec:=fun args S=>match args with
 | [.sl sz' es _]=>if sz' = sz then some (es ≠ []∧es.length * bytes≤140737488355328,.ms S.boxes.length sz es.length,{ S with boxes:=S.boxes ++ [some (ownC sz es)] }) else none
 | _=>none
theorem oCloneN {f:FuncId} {sz bytes:Nat} (h:ISpecOk P G f (sClone sz bytes)):ISpecOk P G f (sCloneN sz bytes):=h.mono fun args S p r hr hp=>by
 unfold sCloneN at hr
 split at hr
 case h_2=>cases hr
 rename_i sz' es o
 split at hr
 case isFalse=>cases hr
 rename_i hz
 subst hz
 injection hr with hr
 simp only [Prod.mk.injEq] at hr
 obtain ⟨rfl,hr⟩:=hr
 refine ⟨_,?_,hp.2⟩
 have:es.isEmpty = false:=by cases es with
  | nil=>exact absurd rfl hp.1
  | cons _ _=>rfl
 simp only [sClone,this,Bool.false_eq_true,if_false,if_true,hr]
theorem oClone {f:FuncId} {e:TypeId} {sz bytes:Nat} (hgd:goodFn P f) (hsz:0 < sz)
  (hc:∀ (b off n c:Nat) (news:List Value) (w:World),news.length = n * sz→n≤maxLen→n * bytes≤140737488355328→(∀ j u,news[j]? = some u→w.cell? ⟨b,off + j,none⟩ = some u)→(∀ u ∈ news,u.oneCell' = true) →
   Calls P f #[.slice (some ⟨b,off,none⟩) n c] w fun x w'=>∃ v',x = .returned v'∧w'.ownsRow w.heap.size e sz v' n news∧v' ≠ .slice none 0 0∧Below w.heap.size w w')
  (hnil:∀ (n c:Nat) (w:World),Calls P f #[.slice none n c] w fun x w'=>x = .returned (.slice none 0 0)∧w' = w)
  (h0:∀ (a:Addr) (c:Nat) (w:World),Calls P f #[.slice (some a) 0 c] w fun x w'=>∃ A,x = .returned (.slice A 0 0)∧Below w.heap.size w w'):ISpecOk P G f (sClone sz bytes):=by
 intro f' args S r S' h
 simp only [lowC] at h
 split at h
 case h_2=>cases h
 rename_i x hx
 split at h
 case isFalse=>cases h
 rename_i hp
 injection h with h
 split at hx
 case isFalse=>cases hx
 rename_i ef
 subst ef
 unfold sClone at hx
 split at hx
 case h_2=>cases hx
 rename_i sz' es o
 split at hx
 ·rename_i hes
  injection hx with hx
  subst hx
  simp only [Prod.mk.injEq] at h
  obtain ⟨rfl,rfl⟩:=h
  have hes':es = []:=by simpa using hes
  subst hes'
  refine ⟨hgd,fun N0 w0 I0 E w vs hS hvs hv=>?_⟩
  obtain ⟨a,rfl⟩:=vs_one hvs
  have hr:=hv 0 _ _ rfl rfl
  have hout:∀ (E':Env) (w':World) (A:Option Addr),Rep E' w' (.sl sz [] .full) (.slice A 0 0):=fun E' w' A =>
   .sl sz [] .full A 0 (fun _ _=>.bool true) (Nat.le_refl _) (Nat.zero_le _) (.inl rfl) (by simp) (by simp) rfl (by simp) (fun _ _=>rfl)
  cases hr with | sl _ _ _ A cap u hcap hmax hA _ _ _ _ _ =>
  cases A with
  | none =>
   refine (hnil 0 cap w).mono ?_
   rintro x w' ⟨rfl,rfl⟩
   exact ⟨_,E,rfl,hS,Env.Le.refl _ _,hout _ _ _⟩
  | some A =>
   refine (h0 A cap w).mono ?_
   rintro x w' ⟨A',rfl,hb⟩
   obtain ⟨hS1,hL1⟩:=hS.ext hb (I':=E.I) (fun _ _ h=>h) (fun _ _ h=>.inl h)
   exact ⟨_,_,rfl,hS1,hL1,hout _ _ _⟩
 ·rename_i hes
  split at hx
  case isFalse=>cases hx
  rename_i hz
  subst hz
  injection hx with hx
  subst hx
  simp only [Prod.mk.injEq] at h
  obtain ⟨rfl,rfl⟩:=h
  have hes':es ≠ []:=by simpa using hes
  refine ⟨hgd,fun N0 w0 I0 E w vs hS hvs hv=>?_⟩
  obtain ⟨a,rfl⟩:=vs_one hvs
  have hr:=hv 0 _ _ rfl rfl
  obtain ⟨A,cap,rfl⟩:∃ A cap,a = .slice A es.length cap:=by cases hr with | sl _ _ _ A cap=>exact ⟨A,cap,rfl⟩
  obtain ⟨vals,hvals,_,hat⟩:=rep_vals (P:=P) hr hsz
  have hAm:(∃ b off,A = some ⟨b,off,none⟩)∧es.length≤maxLen:=by
   cases hr with | sl _ _ _ _ _ u hcap hmax hA _ _ _ _ _ =>
   rcases hA with hA | ⟨b,off,hA,_⟩
   ·exact absurd hA hes'
   ·exact ⟨⟨b,off,hA⟩,Nat.le_trans hcap hmax⟩
  obtain ⟨⟨b,off,rfl⟩,hmax⟩:=hAm
  refine (hc b off es.length cap vals w hvals.1 hmax hp (fun j u hj=>(hat b off rfl j u hj).2) hvals.2.2.2.1).mono ?_
  rintro x w' ⟨v',rfl,hown,hnn,hb⟩
  obtain ⟨E',h1,h2,h3⟩:=hS.take_row hb hown hnn rfl hvals
  exact ⟨v',E',rfl,h1,h2,h3⟩
end
structure InPl (b:Nat) (w w':World):Prop where
 os:w'.os = w.os
 tape:w'.tape = w.tape
 output:w'.output = w.output
 size:w'.heap.size = w.heap.size
 other:∀ k,k ≠ b→w'.heap[k]? = w.heap[k]?
 rows:rowsOf w' b = rowsOf w b
theorem InPl.refl (b:Nat) (w:World):InPl b w w:=⟨rfl,rfl,rfl,rfl,fun _ _=>rfl,rfl⟩
theorem InPl.trans {b:Nat} {w w' w'':World} (h:InPl b w w') (k:InPl b w' w''):InPl b w w'':=
 ⟨k.os.trans h.os,k.tape.trans h.tape,k.output.trans h.output,k.size.trans h.size,fun i hi=>(k.other i hi).trans (h.other i hi),k.rows.trans h.rows⟩
theorem InPl.drew {b:Nat} {w w':World} (h:InPl b w w'):InPl b w w'.drew:=⟨h.os,h.tape,h.output,h.size,h.other,h.rows⟩
theorem InPl.set {b:Nat} {w w':World} (h:InPl b w w') (o:Nat) (v:Value):InPl b w (w'.setCell ⟨b,o,none⟩ v):=by
 refine h.trans ⟨rfl,rfl,rfl,by simp,fun k hk=>?_,?_⟩
 ·simp only [World.setCell,Array.getElem?_modify]
  rw [if_neg (Ne.symm hk)]
 ·unfold rowsOf
  simp only [World.setCell,Array.getElem?_modify,if_true]
  cases hb:w'.heap[b]? with
  | none=>rfl
  | some ob=>cases ob <;> simp
theorem InPl.sets {b:Nat} {w:World}:∀ (vs:List Value) (o:Nat) {w':World},InPl b w w'→InPl b w (w'.setCells b o vs)
 | [],_,_,h=>h
 | v :: r,o,_,h=>InPl.sets r (o + 1) (h.set o v)
theorem InPl.below {b n:Nat} {w w':World} (h:InPl b w w') (hb:n≤b):Below n w w':=⟨h.os,h.tape,h.output,by have:=h.size; omega,fun k hk=>h.other k (by omega)⟩
section
variable {P : Program} {E : Env} {w w' : World} {G : Glob} {N0 : Nat → Prop} {w0 : World} {I0 : Nat → Nat → Prop} {S : St}
theorem SR.promise (hS:SR P G N0 w0 I0 S E w) {b blk:Nat} (hB:E.B b = some blk) (hf:Frz S b) (J:Nat→Prop) :
  ∃ E',SR P G N0 w0 I0 S E' w∧Env.Le E E' w w∧∀ o,J o→E'.I blk o:=by
 obtain ⟨b1,b2,b3,b4⟩:=hS.Blt b blk hB
 let E':Env:=⟨fun b' o=>E.I b' o∨(b' = blk∧J o),E.B,E.K⟩
 have hle:Env.Le E E' w w:=⟨fun _ _ h=>⟨.inl h,rfl⟩,fun _ _ h=>h,fun _ _ _ h=>h,fun _ _ _=>rfl⟩
 refine ⟨E',⟨hS.below,hS.n0,fun b' o hi=>?_,fun b' o hi hlt=>?_,fun id b' he=>?_,hS.Binj,fun id cs hi=>?_,hS.glob.le hle,hS.hole,hS.Klt,hS.Kblk,fun t n e ht=>?_⟩,hle,fun o ho=>.inr ⟨rfl,ho⟩⟩
 ·rcases hi with hi | ⟨rfl,_⟩
  ·exact hS.Ilt b' o hi
  ·exact b3
 ·rcases hi with hi | ⟨rfl,_⟩
  ·exact hS.Iold b' o hi hlt
  ·exact absurd hlt b2
 ·obtain ⟨a1,a2,a3,a4⟩:=hS.Blt id b' he
  refine ⟨a1,a2,a3,fun o ho=>?_⟩
  rcases ho with ho | ⟨rfl,_⟩
  ·exact a4 o ho
  ·rw [hS.Binj _ _ _ he hB]; exact hf
 ·obtain ⟨blk',hB',hx'⟩:=hS.box id cs hi
  exact ⟨blk',hB',hx'.le rfl hle⟩
 ·obtain ⟨v,xs,sz',hsz,hown,hu,hK,hg⟩:=hS.live t n e ht
  refine ⟨v,xs,sz',hsz,hown,hu,hK,fun g hg'=>?_⟩
  obtain ⟨a1,a2,a3⟩:=hg g hg'
  refine ⟨fun o ho=>?_,a2,a3⟩
  rcases ho with ho | ⟨rfl,_⟩
  ·exact a1 o ho
  ·exact absurd hB (a2 b)
theorem frz_dead {S:St} {b:Nat} (h:b < S.boxes.length):Frz { S with boxes:=S.boxes.set b (some deadC) } b:=⟨deadC,by simp only [List.getElem?_set,if_true]; rw [if_pos h],.inl rfl⟩
theorem SR.kill (hS:SR P G N0 w0 I0 S E w) {b blk sz:Nat} {es:List AV} (hb:S.boxes[b]? = some (some (ownC sz es))) (hB:E.B b = some blk) (hp:InPl blk w w') (J:Nat→Prop) :
  ∃ E',SR P G N0 w0 I0 { S with boxes:=S.boxes.set b (some deadC) } E' w'∧Env.Le E E' w w'∧∀ o,J o→E'.I blk o:=by
 have hnf:¬ Frz S b:=fun hf=>by
  rcases hf.row hb with e2 | ⟨sz2,es2,e2⟩ <;> simp at e2
 have b1:=(hS.Blt b blk hB).1
 obtain ⟨h1,h2⟩:=hS.obj_set (cs':=deadC) hB hp.os hp.tape hp.output hp.size hp.other (.dead rfl) hnf hp.rows
 obtain ⟨E',k1,k2,k3⟩:=h1.promise hB (frz_dead b1) J
 exact ⟨E',k1,h2.trans k2,k3⟩
theorem Vals.sub {sz:Nat} {es:List AV} {vals:List Value} (h:Vals E w sz es vals) (i:Nat) (hi:i≤es.length):Vals E w sz (es.take i) (vals.take (i * sz))∧Vals E w sz (es.drop i) (vals.drop (i * sz)):=by
 have hm:i * sz≤es.length * sz:=Nat.mul_le_mul_right _ hi
 refine ⟨⟨by rw [List.length_take,List.length_take,h.1,Nat.min_eq_left hm,Nat.min_eq_left hi],fun e he=>h.2.1 e (List.mem_of_mem_take he),fun e he=>h.2.2.1 e (List.mem_of_mem_take he),fun u hu=>h.2.2.2.1 u (List.mem_of_mem_take hu),fun k e j c hk hj=>?_⟩,
  ⟨by rw [List.length_drop,List.length_drop,h.1,Nat.sub_mul],fun e he=>h.2.1 e (List.mem_of_mem_drop he),fun e he=>h.2.2.1 e (List.mem_of_mem_drop he),fun u hu=>h.2.2.2.1 u (List.mem_of_mem_drop hu),fun k e j c hk hj=>?_⟩⟩
 ·rw [List.getElem?_take] at hk
  split at hk
  ·rename_i hlt
   obtain ⟨u,hu,hr⟩:=h.2.2.2.2 k e j c hk hj
   refine ⟨u,?_,hr⟩
   have hjs:j < sz:=by rw [← h.2.1 e (List.mem_of_getElem? hk)]; exact (List.getElem?_eq_some_iff.1 hj).1
   have:(k + 1) * sz≤i * sz:=Nat.mul_le_mul_right _ (by omega)
   rw [Nat.add_mul] at this
   rw [List.getElem?_take,if_pos (by omega)]; exact hu
  ·cases hk
 ·rw [List.getElem?_drop] at hk
  obtain ⟨u,hu,hr⟩:=h.2.2.2.2 _ e j c hk hj
  refine ⟨u,?_,hr⟩
  rw [List.getElem?_drop]
  rw [Nat.add_mul] at hu
  rw [← Nat.add_assoc]; exact hu
end
section
variable {P : Program} {G : Glob}
def InsOk (P:Program) (f:FuncId) (sz bytes:Nat):Prop:=
 ∀ (b n c i vb voff vc:Nat) (cs vs:List Value) (arr:Array Value) (ty0:TypeId) (w:World),i≤n→0 < n→n≤c→c≤maxLen→vb ≠ b→w.heap[b]? = some (.cells arr ty0 (0,0))→c * sz≤arr.size→(n + 1) * bytes≤140737488355328→cs.length = n * sz→vs.length = sz →
  (∀ j v,cs[j]? = some v→w.cell? ⟨b,j,none⟩ = some v)→(∀ j v,vs[j]? = some v→w.cell? ⟨vb,voff + j,none⟩ = some v)→(∀ v ∈ cs,v.oneCell' = true)→(∀ v ∈ vs,v.oneCell' = true) →
  Calls P f #[.slice (some ⟨b,0,none⟩) n c,.int .i64 i,.slice (some ⟨vb,voff,none⟩) 1 vc] w fun e w'=>∃ g cap,e = .returned (.slice (some ⟨g,0,none⟩) (n + 1) cap)∧n + 1≤cap∧cap≤maxLen ∧
   (∀ j u,(cs.take (i * sz) ++ vs ++ cs.drop (i * sz))[j]? = some u→w'.cell? ⟨g,j,none⟩ = some u)∧((g = b∧InPl b w w')∨(w.heap.size≤g∧g < w'.heap.size∧Below w.heap.size w w'))
def sInsert (sz bytes:Nat):ISpec:=fun args S=>match args with
 | [.ms b sz' n,.int .i64 i,.sl sz2 [x] _]=>match S.boxes[b]? with
  | some (some [.tup [.bool true,.sl sz3 es .no]])=>if sz' = sz∧sz2 = sz∧sz3 = sz then
    some (es.length = n∧0≤i∧i≤n∧(n + 1) * bytes≤140737488355328∧0 < n,.sl sz (es.take i.toNat ++ [x] ++ es.drop i.toNat) .no,{ S with boxes:=S.boxes.set b (some deadC) }) else none
  | _=>none
 | _=>none
theorem oInsert {f:FuncId} {sz bytes:Nat} (hgd:goodFn P f) (hsz:0 < sz) (hc:InsOk P f sz bytes):ISpecOk P G f (sInsert sz bytes):=by
 intro f' args S r S' h
 simp only [lowC] at h
 split at h
 case h_2=>cases h
 rename_i x hx
 split at h
 case isFalse=>cases h
 rename_i hp
 injection h with h
 split at hx
 case isFalse=>cases hx
 rename_i ef
 subst ef
 unfold sInsert at hx
 split at hx
 case h_2=>cases hx
 rename_i b sz' n i sz2 x o
 split at hx
 case h_2=>cases hx
 rename_i sz3 es hbx
 split at hx
 case isFalse=>cases hx
 rename_i hz
 obtain ⟨rfl,rfl,rfl⟩:=hz
 injection hx with hx
 subst hx
 simp only [Prod.mk.injEq] at h hp
 obtain ⟨rfl,rfl⟩:=h
 obtain ⟨hn,hi0,hin,hby,hn0⟩:=hp
 subst hn
 obtain ⟨k,rfl⟩:=Int.eq_ofNat_of_zero_le hi0
 simp only [Int.toNat_natCast]
 refine ⟨hgd,fun N0 w0 I0 E w vs hS hvs hv=>?_⟩
 obtain ⟨a1,a2,a3,rfl⟩:∃ a1 a2 a3,vs = #[a1,a2,a3]:=by
  match vs,hvs with
  | ⟨[a1,a2,a3]⟩,_=>exact ⟨a1,a2,a3,rfl⟩
 have hr1:=hv 0 _ _ rfl rfl
 have hr2:=hv 1 _ _ rfl rfl
 have hr3:=hv 2 _ _ rfl rfl
 simp only [List.getElem_toArray,List.getElem_cons_zero,List.getElem_cons_succ] at hr1 hr2 hr3
 cases hr1 with | ms _ _ _ blk c hB h1 h2 h3 =>
 obtain rfl:=rep_int hr2
 obtain ⟨A,vc,rfl⟩:∃ A vc,a3 = .slice A 1 vc:=by cases hr3 with | sl _ _ _ A cap=>exact ⟨A,cap,rfl⟩
 obtain ⟨xs,hxv,_,hxat⟩:=rep_vals (P:=P) hr3 hsz
 obtain ⟨vb,voff,rfl⟩:∃ b off,A = some ⟨b,off,none⟩:=by
  cases hr3 with | sl _ _ _ _ _ u hcap hmax hA _ _ _ _ _ =>
  rcases hA with hA | ⟨b,off,hA,_⟩
  ·cases hA
  ·exact ⟨b,off,hA⟩
 obtain ⟨blk',hB',hown⟩:=hS.box b _ hbx
 obtain rfl:blk = blk':=by rw [hB] at hB'; injection hB'
 have hnf:¬ Frz S b:=fun hf=>by
  rcases hf.row hbx with e2 | ⟨sz2,es2,e2⟩ <;> simp at e2
 have hvb:vb ≠ blk:=fun e=>by
  subst e
  have hx0:0 < xs.length:=by rw [hxv.1]; simpa using hsz
  exact hnf ((hS.Blt b vb hB).2.2.2 _ (hxat vb voff rfl 0 _ (List.getElem?_eq_getElem hx0)).1)
 cases hown with
 | row arr ty hr=>simp [isRow] at hr
 | iter s pos hcs=>simp at hcs
 | map t n es k e D hcs=>simp [mapC] at hcs
 | dead hcs=>simp at hcs
 | own sz2 es2 f2 arr ty hcs hh hesz hecl hec hf =>
  simp only [List.cons.injEq,AV.tup.injEq,AV.bool.injEq,AV.sl.injEq,and_true] at hcs
  obtain ⟨rfl,rfl,rfl⟩:=hcs
  have hrows:rowsOf w blk = arr.size:=by unfold rowsOf; rw [hh]
  have hcm:es.length * sz3≤c * sz3:=Nat.mul_le_mul_right _ h1
  have hvals:Vals E w sz3 es (arr.toList.take (es.length * sz3)):=by
   refine ⟨by have hal:arr.toList.length = arr.size:=Array.length_toList; rw [List.length_take,hal]; omega,hesz,hecl,fun u hu=>?_,fun i e j c hi hj=>?_⟩
   ·obtain ⟨q,hq⟩:=List.mem_iff_getElem?.1 hu
    rw [List.getElem?_take] at hq
    split at hq
    case isFalse=>cases hq
    rename_i hlt
    have q1:q / sz3 < es.length:=(Nat.div_lt_iff_lt_mul hsz).2 hlt
    have q2:q % sz3 < es[q / sz3].cells.length:=by rw [hesz _ (List.getElem_mem q1)]; exact Nat.mod_lt _ hsz
    obtain ⟨v,e1,e2,e3⟩:=hec _ _ _ _ (List.getElem?_eq_getElem q1) (List.getElem?_eq_getElem q2)
    have hdm:q / sz3 * sz3 + q % sz3 = q:=by rw [Nat.mul_comm]; exact Nat.div_add_mod q sz3
    rw [hdm] at e1
    rw [Array.getElem?_toList,e1] at hq
    cases hq; exact e3
   ·obtain ⟨v,e1,e2,e3⟩:=hec i e j c hi hj
    refine ⟨v,?_,e2⟩
    have hjs:j < sz3:=by rw [← hesz e (List.mem_of_getElem? hi)]; exact (List.getElem?_eq_some_iff.1 hj).1
    have hi':i < es.length:=(List.getElem?_eq_some_iff.1 hi).1
    have:(i + 1) * sz3≤es.length * sz3:=Nat.mul_le_mul_right _ hi'
    rw [Nat.add_mul] at this
    rw [List.getElem?_take,if_pos (by omega),Array.getElem?_toList]; exact e1
  have hcell:∀ j v,(arr.toList.take (es.length * sz3))[j]? = some v→w.cell? ⟨blk,j,none⟩ = some v:=fun j v hj=>by
   rw [List.getElem?_take] at hj
   split at hj
   ·rw [Array.getElem?_toList] at hj
    simp [World.cell?,hh,hj]
   ·cases hj
  have hk:k≤es.length:=by omega
  have hxl:xs.length = sz3:=by rw [hxv.1]; simp
  refine (hc blk es.length c k vb voff vc (arr.toList.take (es.length * sz3)) xs arr ty w hk hn0 h1 h2 hvb hh (by rw [← hrows]; exact h3) (by omega) hvals.1 hxl hcell (fun j v hj=>(hxat vb voff rfl j v hj).2) hvals.2.2.2.1 hxv.2.2.2.1).mono ?_
  rintro e w' ⟨g,cap,rfl,hcap1,hcap2,hcells,hwhere⟩
  obtain ⟨ht,hd⟩:=hvals.sub k hk
  have hall:=(ht.append hxv).append hd
  have hlen:(es.take k ++ [x] ++ es.drop k).length = es.length + 1:=by simp; omega
  have fin:∀ (E':Env) (w':World),Env.Le E E' w w'→(∀ j u,((arr.toList.take (es.length * sz3)).take (k * sz3) ++ xs ++ (arr.toList.take (es.length * sz3)).drop (k * sz3))[j]? = some u→w'.cell? ⟨g,j,none⟩ = some u)→(∀ o,o < (es.length + 1) * sz3→E'.I g o) →
    Rep E' w' (.sl sz3 (es.take k ++ [x] ++ es.drop k) .no) (.slice (some ⟨g,0,none⟩) (es.length + 1) cap):=fun E' w' hle hc' hI=>by
   rw [← hlen]
   refine (hall.le hle).rep g 0 cap .no (by rw [hlen]; exact hcap1) hcap2 (fun j u hj=>?_) trivial
   have hjl:=(List.getElem?_eq_some_iff.1 hj).1
   rw [hall.1,hlen] at hjl
   rw [Nat.zero_add]
   exact ⟨hI j hjl,hc' j u hj⟩
  rcases hwhere with ⟨rfl,hip⟩ | ⟨hg1,hg2,hb⟩
  ·obtain ⟨E',k1,k2,k3⟩:=hS.kill hbx hB hip (fun o=>o < (es.length + 1) * sz3)
   exact ⟨_,E',rfl,k1,k2,fin E' w' k2 hcells k3⟩
  ·obtain ⟨E1,k1,k2,k3⟩:=hS.kill hbx hB (InPl.refl blk w) (fun _=>False)
   obtain ⟨m1,m2⟩:=k1.ext hb (I':=fun b' o=>E1.I b' o∨(b' = g∧o < (es.length + 1) * sz3)) (fun _ _ h=>.inl h) (fun b' o h=>by
    rcases h with h | ⟨rfl,_⟩
    ·exact .inl h
    ·exact .inr ⟨hg1,hg2⟩)
   exact ⟨_,_,rfl,m1,k2.trans m2,fin _ w' (k2.trans m2) hcells fun o ho=>.inr ⟨rfl,ho⟩⟩
end
end Go.Abs
namespace Go.Abs
open Go.Proofs
noncomputable abbrev PI:=Try.prog
def GI (m:Int):Glob:=fun g=>match g with
 | 0=>some (.int .i64 m)
 | _=>none
def libI:List (FuncId × Spec):=[(63,sContains)]
theorem mixedI:PI.follows .mixedOrders = true:=Try.checked.mixed
theorem goodI {f:FuncId} (h:(match PI.funcs[f]? with | some fn=>fn.body.isSome && !(fn.name == "runtime.NumGoroutine") | none=>false) = true):goodFn PI f:=by
 split at h
 ·rename_i fn hf
  simp only [Bool.and_eq_true,Bool.not_eq_true'] at h
  exact ⟨fn,hf,h.1,h.2⟩
 ·cases h
theorem libI_ok (m:Int):CalleeOk PI (GI m) (tbl libI):=by
 refine tbl_cons ?_ tbl_nil
 exact o_contains (goodI (by kernel_rfl)) (g0:=0) (m:=m) rfl fun s sub m w hs hm=>Try.strings_Contains s sub m w hs hm
theorem spec_run {P:Program} {G:Glob} {R0:Callee} (hm:P.follows .mixedOrders = true) (h0:CalleeOk P G R0) {f:FuncId} {s:Spec} (h:∀ args r,s args = some r→∃ n,(evs P G R0 (fun _=>[]) n).1 f args = some r):SpecOk P G f s:=by
 intro g args r lv hr
 simp only at hr
 split at hr
 ·rename_i e
  subst e
  obtain ⟨n,hn⟩:=h args _ hr
  exact (evs_ok hm h0 (fun _=>[]) n).1 g args r lv hn
 ·cases hr
def shB:Sh × Option TypeId:=(.val (.one .bool),none)
def shI:Sh × Option TypeId:=(.val (.one (.int .i64)),none)
def letterB (c:UInt8):Bool:=decide (97≤c.toNat∧c.toNat≤122)
def digitB (c:UInt8):Bool:=decide (48≤c.toNat∧c.toNat≤57)
def innerB (c:UInt8):Bool:=letterB c || digitB c || c == 95
def wl:List UInt8→Nat
 | []=>0
 | c :: t=>if letterB c then 1 + (t.takeWhile innerB).length else 0
def nA:Nat→Option Ann:=fun _=>none
def kwList:List (List UInt8):=[[116,97,98,108,101],[102,101,97,116,117,114,101],[111,102],[107,101,101,112],[98,111,111,108],[116,101,120,116],[107,101,121],[105,110,116],[100,101,99],[105,102],[116,104,101,110],[101,108,115,101],[100,101,102,97,117,108,116],[111,114],[97,110,100],[110,111,116],[116,114,117,101],[102,97,108,115,101],[110,117,108,108],[99,111,117,110,116],[115,117,109],[109,101,97,110],[109,105,110],[109,97,120],[102,105,114,115,116],[108,97,115,116],[100,105,115,116,105,110,99,116],[113,117,97,110,116,105,108,101],[100,101,99,97,121],[97,108,108],[115,108,105,100,105,110,103],[116,117,109,98,108,105,110,103],[115,101,115,115,105,111,110],[119,104,101,114,101]]
def kwR (s:List UInt8):Bool:=kwList.contains s
def nameR (s:List UInt8):Bool:=decide (s ≠ []) && decide (s.length≤24) && decide (wl s = s.length) && !kwR s
def s48:Spec:=fun args=>match args with
 | [.str s]=>if s.length≤2000000 then some (.bool (kwR s),[]) else none
 | _=>none
def s27:Spec:=fun args=>match args with
 | [.str s]=>if s.length≤140737488351232 then some (.bool (nameR s),[]) else none
 | _=>none
def XW:Shapes:=fun f=>match f with
 | 48 | 56 | 27 | 35 | 63=>some shB
 | 55=>some shI
 | _=>none
def nAn:Anns:=⟨nA,nA⟩
def a27 (s:List UInt8):Anns:=⟨fun k=>if k = 4 then some { α:=Int,slots:=[0,17,18],nb:=0,vals:=fun n=>[.str s,.int .i64 s.length,.int .i64 n],sS:=fun _=>⟨[],[]⟩,I:=fun n=>∃ k:Nat,n = k∧k≤s.length∧(1≤k→k≤wl s),μ:=fun n=>(s.length - n).toNat } else none,nA⟩
theorem w48 (m:Int) (s:List UInt8):(pureW PI (GI m) XW (tbl libI) (itbl []) nAn [] 48 [.str s] (.bool (kwR s),[])) =
(((!s == []) = true →
    ∃ (b:Bool),
      CallIs (tbl [((63:Nat),sContains)] ((63:Nat)) [AV.str s,AV.str [(32:UInt8)]]) (AV.bool b) [] ∧
        (b = true→RetIs (AV.bool false) [] (AV.bool (kwR s),[])) ∧
 (b = false →
 (1:Nat) + s.length≤(9223372036854775807:Nat) ∧
 ([(32:UInt8)] ++ s).length + (1:Nat)≤(9223372036854775807:Nat) ∧
 ∃ (b:Bool),
 CallIs
 (some
 (AV.bool
 (Lib.contains
 [(32:UInt8),(116:UInt8),(97:UInt8),(98:UInt8),(108:UInt8),(101:UInt8),(32:UInt8),(102:UInt8),
 (101:UInt8),(97:UInt8),(116:UInt8),(117:UInt8),(114:UInt8),(101:UInt8),(32:UInt8),(111:UInt8),
 (102:UInt8),(32:UInt8),(107:UInt8),(101:UInt8),(101:UInt8),(112:UInt8),(32:UInt8),(98:UInt8),
 (111:UInt8),(111:UInt8),(108:UInt8),(32:UInt8),(116:UInt8),(101:UInt8),(120:UInt8),(116:UInt8),
 (32:UInt8),(107:UInt8),(101:UInt8),(121:UInt8),(32:UInt8),(105:UInt8),(110:UInt8),(116:UInt8),
 (32:UInt8),(100:UInt8),(101:UInt8),(99:UInt8),(32:UInt8),(105:UInt8),(102:UInt8),(32:UInt8),
 (116:UInt8),(104:UInt8),(101:UInt8),(110:UInt8),(32:UInt8),(101:UInt8),(108:UInt8),(115:UInt8),
 (101:UInt8),(32:UInt8),(100:UInt8),(101:UInt8),(102:UInt8),(97:UInt8),(117:UInt8),(108:UInt8),
 (116:UInt8),(32:UInt8),(111:UInt8),(114:UInt8),(32:UInt8),(97:UInt8),(110:UInt8),(100:UInt8),
 (32:UInt8),(110:UInt8),(111:UInt8),(116:UInt8),(32:UInt8),(116:UInt8),(114:UInt8),(117:UInt8),
 (101:UInt8),(32:UInt8),(102:UInt8),(97:UInt8),(108:UInt8),(115:UInt8),(101:UInt8),(32:UInt8),
 (110:UInt8),(117:UInt8),(108:UInt8),(108:UInt8),(32:UInt8),(99:UInt8),(111:UInt8),(117:UInt8),
 (110:UInt8),(116:UInt8),(32:UInt8),(115:UInt8),(117:UInt8),(109:UInt8),(32:UInt8),(109:UInt8),
 (101:UInt8),(97:UInt8),(110:UInt8),(32:UInt8),(109:UInt8),(105:UInt8),(110:UInt8),(32:UInt8),
 (109:UInt8),(97:UInt8),(120:UInt8),(32:UInt8),(102:UInt8),(105:UInt8),(114:UInt8),(115:UInt8),
 (116:UInt8),(32:UInt8),(108:UInt8),(97:UInt8),(115:UInt8),(116:UInt8),(32:UInt8),(100:UInt8),
 (105:UInt8),(115:UInt8),(116:UInt8),(105:UInt8),(110:UInt8),(99:UInt8),(116:UInt8),(32:UInt8),
 (113:UInt8),(117:UInt8),(97:UInt8),(110:UInt8),(116:UInt8),(105:UInt8),(108:UInt8),(101:UInt8),
 (32:UInt8),(100:UInt8),(101:UInt8),(99:UInt8),(97:UInt8),(121:UInt8),(32:UInt8),(97:UInt8),
 (108:UInt8),(108:UInt8),(32:UInt8),(115:UInt8),(108:UInt8),(105:UInt8),(100:UInt8),(105:UInt8),
 (110:UInt8),(103:UInt8),(32:UInt8),(116:UInt8),(117:UInt8),(109:UInt8),(98:UInt8),(108:UInt8),
 (105:UInt8),(110:UInt8),(103:UInt8),(32:UInt8),(115:UInt8),(101:UInt8),(115:UInt8),(115:UInt8),
 (105:UInt8),(111:UInt8),(110:UInt8),(32:UInt8),(119:UInt8),(104:UInt8),(101:UInt8),(114:UInt8),
 (101:UInt8),(32:UInt8)]
 ([(32:UInt8)] ++ s ++ [(32:UInt8)])),
 []))
 (AV.bool b) [] ∧
 (b = true→RetIs (AV.bool true) [] (AV.bool (kwR s),[]))∧(b = false→RetIs (AV.bool false) [] (AV.bool (kwR s),[])))) ∧
  ((!s == []) = false→RetIs (AV.bool false) [] (AV.bool (kwR s),[]))):=by kernel_rfl
theorem w27 (m:Int) (s:List UInt8):(pureW PI (GI m) XW (tbl [(48,s48)]) (itbl []) (a27 s) [] 27 [.str s] (.bool (nameR s),[])) =
(((s == []) = true → RetIs (AV.bool false) [] (AV.bool (nameR s), [])) ∧
  ((s == []) = false →
    (decide ((↑s.length:Int) > (24:Int)) = true→RetIs (AV.bool false) [] (AV.bool (nameR s),[])) ∧
      (decide ((↑s.length:Int) > (24:Int)) = false →
        ∃ (b:Bool),
 CallIs (tbl [((48:Nat),s48)] ((48:Nat)) [AV.str s]) (AV.bool b) [] ∧
 (b = true→RetIs (AV.bool false) [] (AV.bool (nameR s),[])) ∧
 (b = false →
 (∃ (y:Int),
 ValsAre [AV.str s,AV.int IntKind.i64 (↑s.length:Int),AV.int IntKind.i64 (0:Int)]
 [AV.str s,AV.int IntKind.i64 (↑s.length:Int),AV.int IntKind.i64 y] ∧
 StIs { boxes:=[],live:=[] } { boxes:=[],live:=[] } ∧
 (∃ (k:Nat),y = (↑k:Int)∧k≤s.length∧((1:Nat)≤k→k≤wl s))∧True) ∧
 ∀ (x:Int),
 (∃ (k:Nat),x = (↑k:Int)∧k≤s.length∧((1:Nat)≤k→k≤wl s)) →
 (decide (x < (↑s.length:Int)) = true →
 (0:Int)≤x ∧
 ∃ (c:UInt8),
 s[x.toNat]? = some c ∧
 (decide ((↑c.toNat:Int) ≥ (97:Int)) = true →
 (decide ((↑c.toNat:Int)≤(122:Int)) = true →
 ∃ (y:Int),
 ValsAre [AV.str s,AV.int IntKind.i64 (↑s.length:Int),AV.int IntKind.i64 (IntKind.i64.wrap (x + (1:Int)))]
 [AV.str s,AV.int IntKind.i64 (↑s.length:Int),AV.int IntKind.i64 y] ∧
 StIs { boxes:=[],live:=[] } { boxes:=[],live:=[] } ∧
 (∃ (k:Nat),y = (↑k:Int)∧k≤s.length∧((1:Nat)≤k→k≤wl s)) ∧
 ((↑s.length:Int) - y).toNat < ((↑s.length:Int) - x).toNat) ∧
 (decide ((↑c.toNat:Int)≤(122:Int)) = false →
 (decide (x > (0:Int)) = true →
 (decide ((↑c.toNat:Int) ≥ (48:Int)) = true →
 (decide ((↑c.toNat:Int)≤(57:Int)) = true →
 ∃ (y:Int),
 ValsAre
 [AV.str s,AV.int IntKind.i64 (↑s.length:Int),
 AV.int IntKind.i64 (IntKind.i64.wrap (x + (1:Int)))]
 [AV.str s,AV.int IntKind.i64 (↑s.length:Int),AV.int IntKind.i64 y] ∧
 StIs { boxes:=[],live:=[] } { boxes:=[],live:=[] } ∧
 (∃ (k:Nat),y = (↑k:Int)∧k≤s.length∧((1:Nat)≤k→k≤wl s)) ∧
 ((↑s.length:Int) - y).toNat < ((↑s.length:Int) - x).toNat) ∧
 (decide ((↑c.toNat:Int)≤(57:Int)) = false →
 (((↑c.toNat:Int) == (95:Int)) = true →
 ∃ (y:Int),
 ValsAre
 [AV.str s,AV.int IntKind.i64 (↑s.length:Int),
 AV.int IntKind.i64 (IntKind.i64.wrap (x + (1:Int)))]
 [AV.str s,AV.int IntKind.i64 (↑s.length:Int),AV.int IntKind.i64 y] ∧
 StIs { boxes:=[],live:=[] } { boxes:=[],live:=[] } ∧
 (∃ (k:Nat),y = (↑k:Int)∧k≤s.length∧((1:Nat)≤k→k≤wl s)) ∧
 ((↑s.length:Int) - y).toNat < ((↑s.length:Int) - x).toNat) ∧
 (((↑c.toNat:Int) == (95:Int)) = false→RetIs (AV.bool false) [] (AV.bool (nameR s),[])))) ∧
 (decide ((↑c.toNat:Int) ≥ (48:Int)) = false →
 (((↑c.toNat:Int) == (95:Int)) = true →
 ∃ (y:Int),
 ValsAre
 [AV.str s,AV.int IntKind.i64 (↑s.length:Int),
 AV.int IntKind.i64 (IntKind.i64.wrap (x + (1:Int)))]
 [AV.str s,AV.int IntKind.i64 (↑s.length:Int),AV.int IntKind.i64 y] ∧
 StIs { boxes:=[],live:=[] } { boxes:=[],live:=[] } ∧
 (∃ (k:Nat),y = (↑k:Int)∧k≤s.length∧((1:Nat)≤k→k≤wl s)) ∧
 ((↑s.length:Int) - y).toNat < ((↑s.length:Int) - x).toNat) ∧
 (((↑c.toNat:Int) == (95:Int)) = false→RetIs (AV.bool false) [] (AV.bool (nameR s),[])))) ∧
 (decide (x > (0:Int)) = false→RetIs (AV.bool false) [] (AV.bool (nameR s),[])))) ∧
 (decide ((↑c.toNat:Int) ≥ (97:Int)) = false →
 (decide (x > (0:Int)) = true →
 (decide ((↑c.toNat:Int) ≥ (48:Int)) = true →
 (decide ((↑c.toNat:Int)≤(57:Int)) = true →
 ∃ (y:Int),
 ValsAre
 [AV.str s,AV.int IntKind.i64 (↑s.length:Int),AV.int IntKind.i64 (IntKind.i64.wrap (x + (1:Int)))]
 [AV.str s,AV.int IntKind.i64 (↑s.length:Int),AV.int IntKind.i64 y] ∧
 StIs { boxes:=[],live:=[] } { boxes:=[],live:=[] } ∧
 (∃ (k:Nat),y = (↑k:Int)∧k≤s.length∧((1:Nat)≤k→k≤wl s)) ∧
 ((↑s.length:Int) - y).toNat < ((↑s.length:Int) - x).toNat) ∧
 (decide ((↑c.toNat:Int)≤(57:Int)) = false →
 (((↑c.toNat:Int) == (95:Int)) = true →
 ∃ (y:Int),
 ValsAre
 [AV.str s,AV.int IntKind.i64 (↑s.length:Int),
 AV.int IntKind.i64 (IntKind.i64.wrap (x + (1:Int)))]
 [AV.str s,AV.int IntKind.i64 (↑s.length:Int),AV.int IntKind.i64 y] ∧
 StIs { boxes:=[],live:=[] } { boxes:=[],live:=[] } ∧
 (∃ (k:Nat),y = (↑k:Int)∧k≤s.length∧((1:Nat)≤k→k≤wl s)) ∧
 ((↑s.length:Int) - y).toNat < ((↑s.length:Int) - x).toNat) ∧
 (((↑c.toNat:Int) == (95:Int)) = false→RetIs (AV.bool false) [] (AV.bool (nameR s),[])))) ∧
 (decide ((↑c.toNat:Int) ≥ (48:Int)) = false →
 (((↑c.toNat:Int) == (95:Int)) = true →
 ∃ (y:Int),
 ValsAre
 [AV.str s,AV.int IntKind.i64 (↑s.length:Int),AV.int IntKind.i64 (IntKind.i64.wrap (x + (1:Int)))]
 [AV.str s,AV.int IntKind.i64 (↑s.length:Int),AV.int IntKind.i64 y] ∧
 StIs { boxes:=[],live:=[] } { boxes:=[],live:=[] } ∧
 (∃ (k:Nat),y = (↑k:Int)∧k≤s.length∧((1:Nat)≤k→k≤wl s)) ∧
 ((↑s.length:Int) - y).toNat < ((↑s.length:Int) - x).toNat) ∧
 (((↑c.toNat:Int) == (95:Int)) = false→RetIs (AV.bool false) [] (AV.bool (nameR s),[])))) ∧
 (decide (x > (0:Int)) = false→RetIs (AV.bool false) [] (AV.bool (nameR s),[])))) ∧
 (decide (x < (↑s.length:Int)) = false→RetIs (AV.bool true) [] (AV.bool (nameR s),[])))))):=by kernel_rfl
theorem wl_le (bs:List UInt8):wl bs≤bs.length:=by
 cases bs with
 | nil=>simp [wl]
 | cons c t =>
  simp only [wl]
  split
  ·have:=(List.takeWhile_prefix innerB (l:=t)).length_le
   simp; omega
  ·simp
theorem wl_drop {bs:List UInt8} {i:Nat} (h:i < bs.length):wl (bs.drop i) = if letterB (bs.getD i 0) then 1 + ((bs.drop (i + 1)).takeWhile innerB).length else 0:=by
 rw [List.drop_eq_getElem_cons h]
 simp [wl,h]
theorem getD_drop' {bs:List UInt8} {i k:Nat}:(bs.drop i).getD k 0 = bs.getD (i + k) 0:=by
 simp [List.getElem?_drop]
theorem wl_next {bs:List UInt8} {i k:Nat} (hk:k≤wl (bs.drop i)) (h1:1≤k) (h:i + k < bs.length) (hp:innerB (bs.getD (i + k) 0) = true):k + 1≤wl (bs.drop i):=by
 rw [wl_drop (by omega)] at hk ⊢
 split at hk
 ·rename_i hc
  rw [if_pos hc]
  have:=tw_next (p:=innerB) (l:=bs.drop (i + 1)) (k:=k - 1) (by omega) (by rw [List.length_drop]; omega) (by rw [getD_drop',show i + 1 + (k - 1) = i + k by omega]; exact hp)
  omega
 ·omega
theorem wl_stop {bs:List UInt8} {i k:Nat} (hk:k≤wl (bs.drop i)) (h1:1≤k) (hp:i + k < bs.length→innerB (bs.getD (i + k) 0) = false):k = wl (bs.drop i):=by
 have hl:=wl_le (bs.drop i)
 rw [List.length_drop] at hl
 have hi:i < bs.length:=by omega
 rw [wl_drop hi] at hk ⊢
 split at hk
 ·rename_i hc
  rw [if_pos hc]
  have:=tw_stop (p:=innerB) (l:=bs.drop (i + 1)) (k:=k - 1) (by omega) (fun h=>by rw [getD_drop',show i + 1 + (k - 1) = i + k by omega]; exact hp (by rw [List.length_drop] at h; omega))
  omega
 ·omega
theorem p27 (m:Int) (s:List UInt8) (hs:s.length≤140737488351232):PureOk PI (GI m) XW (tbl [(48,s48)]) (itbl []) (a27 s) [] 27 [.str s] (.bool (nameR s),[]):=by
 constructor
 rw [w27]
 by_cases hb:s.length≤2000000
 case neg =>
  simp only [callIs_iff,valsAre_iff,stIs_iff,retIs_iff,Prod.mk.injEq,AV.bool.injEq,AV.int.injEq,List.cons.injEq,and_true,true_and,exists_eq_left',decide_eq_true_eq,decide_eq_false_iff_not,beq_iff_eq,beq_eq_false_iff_ne,ne_eq]
  refine ⟨fun h=>by simp [nameR,h],fun hne=>⟨fun h=>?_,fun hl=>by omega⟩⟩
  simp [nameR]; intro _ h2; omega
 have t16:tbl [(48,s48)] 48 [.str s] = some (.bool (kwR s),[]):=by
  show s48 [.str s] = _
  simp [s48,hb]
 rw [t16]
 simp only [callIs_iff,valsAre_iff,stIs_iff,retIs_iff,Prod.mk.injEq,AV.bool.injEq,AV.int.injEq,Option.some.injEq,List.cons.injEq,and_true,true_and,exists_eq_left',decide_eq_true_eq,decide_eq_false_iff_not,beq_iff_eq,beq_eq_false_iff_ne,ne_eq]
 refine ⟨fun h=>by simp [nameR,h],fun hne=>⟨fun h=>?_,fun hl=>⟨fun h=>by simp [nameR,h],fun hk=>⟨⟨0,rfl,by omega,by omega⟩,?_⟩⟩⟩⟩
 ·simp [nameR]; intro _ h2; omega
 ·rintro x ⟨k,rfl,hk1,hk2⟩
  rw [wrap64_in (n:=(k:Int) + 1) (by omega) (by omega)]
  have hw:=wl_le s
  refine ⟨fun hlt=>?_,fun hge=>?_⟩
  ·have hlt':k < s.length:=by omega
   refine ⟨by omega,s.getD k 0,by simp [hlt'],?_⟩
   have hlet:letterB (s.getD k 0) = decide (97≤(s.getD k 0).toNat∧(s.getD k 0).toNat≤122):=rfl
   have h95:(s.getD k 0).toNat = 95 ↔ s.getD k 0 = 95:=by
    rw [← UInt8.toNat_inj]; rfl
   have hin:innerB (s.getD k 0) = true ↔ (97≤(s.getD k 0).toNat∧(s.getD k 0).toNat≤122)∨(48≤(s.getD k 0).toNat∧(s.getD k 0).toNat≤57)∨(s.getD k 0).toNat = 95:=by
    rw [h95]
    simp only [innerB,letterB,digitB,Bool.or_eq_true,decide_eq_true_eq,beq_iff_eq,or_assoc]
   have hw0:=wl_drop (bs:=s) (i:=0) (by omega)
   rw [List.drop_zero] at hw0
   have step:((97≤(s.getD k 0).toNat∧(s.getD k 0).toNat≤122)∨(1≤k∧((48≤(s.getD k 0).toNat∧(s.getD k 0).toNat≤57)∨(s.getD k 0).toNat = 95))) →
     (∃ j:Nat,(k:Int) + 1 = j∧j≤s.length∧(1≤j→j≤wl s))∧((s.length:Int) - (k + 1)).toNat < ((s.length:Int) - k).toNat:=fun hp=>by
    refine ⟨⟨k + 1,by omega,by omega,fun _=>?_⟩,by omega⟩
    by_cases h0:k = 0
    ·subst h0
     rw [hw0,if_pos (by rw [hlet]; exact decide_eq_true (by omega))]
     omega
    ·have:=wl_next (bs:=s) (i:=0) (k:=k) (by rw [List.drop_zero]; exact hk2 (by omega)) (by omega) (by omega) (by rw [Nat.zero_add,hin]; omega)
     rw [List.drop_zero] at this
     omega
   have stop:¬((97≤(s.getD k 0).toNat∧(s.getD k 0).toNat≤122)∨(1≤k∧((48≤(s.getD k 0).toNat∧(s.getD k 0).toNat≤57)∨(s.getD k 0).toNat = 95)))→false = nameR s:=fun hp=>by
    have hne:wl s ≠ s.length:=by
     by_cases h0:k = 0
     ·subst h0
      rw [hw0,if_neg (by rw [hlet]; simp only [decide_eq_true_eq]; omega)]
      omega
     ·have:=wl_stop (bs:=s) (i:=0) (k:=k) (by rw [List.drop_zero]; exact hk2 (by omega)) (by omega) (fun _=>by
       rw [Nat.zero_add]
       cases hb:innerB (s.getD k 0) with
       | false=>rfl
       | true=>rw [hin] at hb; omega)
      rw [List.drop_zero] at this
      omega
    simp [nameR,hne]
   generalize (s.getD k 0).toNat = c at *
   repeat' (first | exact step (by omega) | exact stop (by omega) | refine And.intro (fun _=>?_) (fun _=>?_))
  ·have hk3:k = s.length:=by omega
   have hp:0 < s.length:=List.length_pos_iff.2 hne
   have:wl s = s.length:=by have:=hk2 (by omega); omega
   simp [nameR,hne,hk,this]
   omega
theorem contains_iff (t sub:List UInt8):Lib.contains t sub = true ↔ ∃ i,i≤t.length∧Lib.occAt t sub i = true:=by
 unfold Lib.contains
 rw [decide_eq_true_eq]
 constructor
 ·intro h
  by_cases hex:∃ i,i≤t.length∧Lib.occAt t sub i = true
  ·exact hex
  ·have:=Lib.index_none (s:=t) (sub:=sub) fun j hj=>by
    cases hb:Lib.occAt t sub j with
    | false=>rfl
    | true=>exact absurd ⟨j,hj,hb⟩ hex
   omega
 ·intro h
  obtain ⟨n,⟨hn,ho⟩,hmin⟩:=exists_least h
  have:=Lib.index_first (s:=t) (sub:=sub) hn ho fun j hj=>by
   cases hb:Lib.occAt t sub j with
   | false=>rfl
   | true=>have:=hmin j ⟨by omega,hb⟩; omega
  omega
def txt (ws:List (List UInt8)):List UInt8:=32 :: ws.flatMap fun w=>w ++ [32]
theorem txt_cons (w:List UInt8) (ws:List (List UInt8)):txt (w :: ws) = 32 :: (w ++ txt ws):=by
 simp [txt]
theorem pre_word:∀ {s w r q:List UInt8},32 ∉ s→32 ∉ w→(s ++ 32 :: r = w ++ 32 :: q)→s = w
 | [],[],_,_,_,_,_=>rfl
 | [],c :: w,_,_,_,hw,h=>by
  injection h with h1 _
  exact absurd (by rw [← h1]; exact List.mem_cons_self) hw
 | c :: s,[],_,_,hs,_,h=>by
  injection h with h1 _
  exact absurd (by rw [h1]; exact List.mem_cons_self) hs
 | c :: s,d :: w,r,q,hs,hw,h=>by
  simp only [List.cons_append,List.cons.injEq] at h
  rw [h.1,pre_word (fun hm=>hs (List.mem_cons_of_mem _ hm)) (fun hm=>hw (List.mem_cons_of_mem _ hm)) h.2]
theorem occ_txt {s:List UInt8} (hs:32 ∉ s) (hne:s ≠ []):∀ (ws:List (List UInt8)),(∀ w ∈ ws,32 ∉ w)→((∃ i,([32] ++ s ++ [32]) <+: (txt ws).drop i) ↔ s ∈ ws)
 | [],_=>by
  simp only [List.not_mem_nil,iff_false]
  rintro ⟨i,h⟩
  have:=h.length_le
  have hp:0 < s.length:=List.length_pos_iff.2 hne
  simp [txt] at this
  omega
 | w :: ws,hw=>by
  have ih:=occ_txt hs hne ws fun x hx=>hw x (List.mem_cons_of_mem _ hx)
  rw [txt_cons]
  constructor
  ·rintro ⟨i,h⟩
   match i with
   | 0 =>
    obtain ⟨r,hr⟩:=h
    simp only [List.drop_zero,List.cons_append,List.nil_append,List.append_assoc,List.cons.injEq,true_and,txt] at hr
    rw [pre_word hs (hw w List.mem_cons_self) hr]
    exact List.mem_cons_self
   | i + 1 =>
    simp only [List.drop_succ_cons] at h
    by_cases hi:i < w.length
    ·obtain ⟨r,hr⟩:=h
     rw [List.drop_append_of_le_length (by omega),List.drop_eq_getElem_cons hi] at hr
     simp only [List.cons_append,List.nil_append,List.cons.injEq] at hr
     exact absurd (hr.1 ▸ List.getElem_mem hi) (hw w List.mem_cons_self)
    ·have e:(w ++ txt ws).drop i = (txt ws).drop (i - w.length):=by
      rw [List.drop_append,List.drop_eq_nil_of_le (by omega),List.nil_append]
     rw [e] at h
     exact List.mem_cons_of_mem _ (ih.1 ⟨_,h⟩)
  ·intro h
   rcases List.mem_cons.1 h with rfl | h
   ·exact ⟨0,⟨txt ws |>.tail,by simp [txt]⟩⟩
   ·obtain ⟨i,hi⟩:=ih.2 h
    refine ⟨i + w.length + 1,?_⟩
    simp only [List.drop_succ_cons]
    rw [List.drop_append,List.drop_eq_nil_of_le (by omega),List.nil_append,show i + w.length - w.length = i by omega]
    exact hi
theorem contains_txt {s:List UInt8} (hs:32 ∉ s) (hne:s ≠ []) (ws:List (List UInt8)) (hw:∀ w ∈ ws,32 ∉ w):Lib.contains (txt ws) ([32] ++ s ++ [32]) = ws.contains s:=by
 rw [Bool.eq_iff_iff,contains_iff,List.contains_iff_mem,← occ_txt hs hne ws hw]
 constructor
 ·rintro ⟨i,_,h⟩
  exact ⟨i,List.isPrefixOf_iff_prefix.1 h⟩
 ·rintro ⟨i,h⟩
  refine ⟨i,?_,List.isPrefixOf_iff_prefix.2 h⟩
  have:=h.length_le
  simp only [List.length_append,List.length_drop,List.length_cons,List.length_nil] at this
  omega
theorem contains_one {s:List UInt8}:Lib.contains s [32] = true ↔ 32 ∈ s:=by
 rw [contains_iff]
 constructor
 ·rintro ⟨i,hi,h⟩
  have:=List.isPrefixOf_iff_prefix.1 h
  obtain ⟨r,hr⟩:=this
  exact List.mem_of_mem_drop (i:=i) (by rw [← hr]; simp)
 ·intro h
  obtain ⟨i,hi,he⟩:=List.mem_iff_getElem.1 h
  refine ⟨i,by omega,List.isPrefixOf_iff_prefix.2 ⟨s.drop (i + 1),?_⟩⟩
  rw [List.drop_eq_getElem_cons hi,he]
  rfl
theorem kw_no:∀ w ∈ kwList,(32:UInt8) ∉ w:=by decide
theorem p48 (m:Int) (s:List UInt8) (hs:s.length≤2000000):PureOk PI (GI m) XW (tbl libI) (itbl []) nAn [] 48 [.str s] (.bool (kwR s),[]):=by
 constructor
 rw [w48]
 have hc:∀ t:List UInt8,tbl [(63,sContains)] 63 [.str s,.str t] = some (.bool (Lib.contains s t),[]):=fun t=>by
  show sContains [.str s,.str t] = _
  simp only [sContains]
  rw [if_pos (by omega)]
 rw [hc]
 have ht:∀ u,Lib.contains [32,116,97,98,108,101,32,102,101,97,116,117,114,101,32,111,102,32,107,101,101,112,32,98,111,111,108,32,116,101,120,116,32,107,101,121,32,105,110,116,32,100,101,99,32,105,102,32,116,104,101,110,32,101,108,115,101,32,100,101,102,97,117,108,116,32,111,114,32,97,110,100,32,110,111,116,32,116,114,117,101,32,102,97,108,115,101,32,110,117,108,108,32,99,111,117,110,116,32,115,117,109,32,109,101,97,110,32,109,105,110,32,109,97,120,32,102,105,114,115,116,32,108,97,115,116,32,100,105,115,116,105,110,99,116,32,113,117,97,110,116,105,108,101,32,100,101,99,97,121,32,97,108,108,32,115,108,105,100,105,110,103,32,116,117,109,98,108,105,110,103,32,115,101,115,115,105,111,110,32,119,104,101,114,101,32] u = Lib.contains (txt kwList) u:=fun u=>rfl
 simp only [ht]
 simp only [callIs_iff,retIs_iff,Prod.mk.injEq,AV.bool.injEq,Option.some.injEq,and_true,exists_eq_left']
 refine ⟨fun h1=>⟨fun h2=>?_,fun h2=>⟨by omega,by simp; omega,?_⟩⟩,fun h1=>?_⟩
 ·have hm:=contains_one.1 h2
  cases hk:kwR s with
  | false=>rfl
  | true=>exact absurd hm (kw_no s (List.contains_iff_mem.1 hk))
 ·have hne:s ≠ []:=by simpa using h1
  have hm:32 ∉ s:=fun h=>by rw [contains_one.2 h] at h2; cases h2
  rw [contains_txt hm hne kwList kw_no]
  exact ⟨fun h=>h.symm,fun h=>h.symm⟩
 ·have:s = []:=by simpa using h1
  subst this
  rfl
theorem o48 (m:Int):SpecOk PI (GI m) 48 s48:=spec_of (X:=XW) (m:=[]) mixedI (libI_ok m) itbl_nil fun args r h=>by
 unfold s48 at h
 split at h
 ·split at h
  ·rename_i hl
   injection h with h; subst h; exact ⟨nAn,p48 m _ hl⟩
  ·cases h
 ·cases h
theorem o27 (m:Int):SpecOk PI (GI m) 27 s27:=spec_of (X:=XW) (m:=[]) mixedI (tbl_cons (o48 m) tbl_nil) itbl_nil fun args r h=>by
 unfold s27 at h
 split at h
 ·split at h
  ·rename_i hl
   injection h with h; subst h; exact ⟨a27 _,p27 m _ hl⟩
  ·cases h
 ·cases h
structure VaI where
 k:Int
 n:Int
 s:List UInt8
deriving DecidableEq,Inhabited
structure FcI where
 src:List UInt8
 seq:Int
 kind:Int
 ref:Int
 table:List UInt8
 key:List UInt8
 event:Int
 fs:List VaI
deriving DecidableEq,Inhabited
structure PkI where
 src:List UInt8
 ack:Bool
 next:Int
 f:FcI
deriving DecidableEq,Inhabited
structure BxI where
 src:List UInt8
 next:Int
 ahead:List Int
deriving DecidableEq,Inhabited
def vaA (v:VaI):AV:=.agg [.int .i64 v.k,.int .i64 v.n,.str v.s]
abbrev vasL (l:List VaI):List AV:=l.map vaA
abbrev fcC (f:FcI):List AV:=[.str f.src,.int .i64 f.seq,.int .i64 f.kind,.int .i64 f.ref,.str f.table,.str f.key,.int .i64 f.event,.sl 3 (vasL f.fs) .no]
def fcA (f:FcI):AV:=.agg (fcC f)
abbrev fcsL (l:List FcI):List AV:=l.map fcA
def pkA (p:PkI):AV:=.agg [.str p.src,.bool p.ack,.int .i64 p.next,.str p.f.src,.int .i64 p.f.seq,.int .i64 p.f.kind,.int .i64 p.f.ref,.str p.f.table,.str p.f.key,.int .i64 p.f.event,.sl 3 (vasL p.f.fs) .no]
abbrev pksL (l:List PkI):List AV:=l.map pkA
abbrev intsA (l:List Int):List AV:=l.map (AV.int .i64)
def bxA (b:BxI):AV:=.agg [.str b.src,.int .i64 b.next,.sl 1 (intsA b.ahead) .no]
abbrev bxsL (l:List BxI):List AV:=l.map bxA
abbrev rcA (r:List BxI):AV:=.agg [.sl 3 (bxsL r) .no]
/-! ### reading values -/
def unV:AV→Option VaI
 | .agg [.int .i64 k,.int .i64 n,.str s]=>some ⟨k,n,s⟩
 | _=>none
def unIn:AV→Option Int
 | .int .i64 n=>some n
 | _=>none
def unL {α:Type} (f:AV→Option α):List AV→Option (List α)
 | []=>some []
 | a :: l=>match f a,unL f l with
  | some x,some xs=>some (x :: xs)
  | _,_=>none
def unB:AV→Option BxI
 | .agg [.str src,.int .i64 next,.sl sz es .no]=>if sz = 1 then (unL unIn es).map fun l=>⟨src,next,l⟩ else none
 | _=>none
/-! ### Receive -/
def lowB (r:List BxI) (s:List UInt8):Nat:=(r.takeWhile fun b=>Op.bytesLess b.src s).length
def oldB (r:List BxI) (s:List UInt8):Bool:=(r[lowB r s]?).any fun b=>b.src == s
def bOf (r:List BxI) (s:List UInt8):BxI:=if oldB r s then r.getD (lowB r s) default else ⟨s,1,[]⟩
def runS:List Int→Int→Int × List Int
 | [],x=>(x,[])
 | y :: l,x=>if y = x then runS l (x + 1) else (x,y :: l)
def insI (n:Int):List Int→List Int
 | []=>[n]
 | x :: l=>if n < x then n :: x :: l else x :: insI n l
def nextB (b:BxI) (n:Int):Int:=(runS (insI n b.ahead) b.next).1
def arrB (b:BxI) (n:Int):BxI:=⟨b.src,nextB b n,(runS (insI n b.ahead) b.next).2⟩
def maxT:Int:=1099511627776
structure PkQ where
 src:List UInt8
 ack:Bool
 next:Int
 fsrc:List UInt8
 seq:Int
deriving DecidableEq,Inhabited
def badP (p:PkQ):Bool:=p.ack || p.next != 0 || !nameR p.src || p.fsrc != p.src || decide (p.seq < 1) || decide (maxT < p.seq)
inductive RcvO where
 | err (c:Int)
 | out (r:List BxI) (fresh:Bool) (s:List UInt8) (n:Int)
deriving DecidableEq
def recvP (r:List BxI) (p:PkQ):RcvO:=
 if badP p then .err 1
 else if !oldB r p.src && decide (16≤r.length) then .err 2
 else if (bOf r p.src).next + 64 < p.seq then .err 410
 else if p.seq < (bOf r p.src).next∨p.seq ∈ (bOf r p.src).ahead then .out r false p.src (bOf r p.src).next
 else .out (r.take (lowB r p.src) ++ [arrB (bOf r p.src) p.seq] ++ r.drop (if oldB r p.src then lowB r p.src + 1 else lowB r p.src)) true p.src (nextB (bOf r p.src) p.seq)
abbrev zeroPC:List AV:=[.str [],.bool false,.int .i64 0,.str [],.int .i64 0,.int .i64 0,.int .i64 0,.str [],.str [],.int .i64 0,.sl 0 [] .nil]
abbrev ackPC (s:List UInt8) (n:Int):List AV:=[.str s,.bool true,.int .i64 n,.str [],.int .i64 0,.int .i64 0,.int .i64 0,.str [],.str [],.int .i64 0,.sl 0 [] .nil]
abbrev rcZ:AV:=.agg [.sl 0 [] .nil]
def recvR:RcvO→AV × List (Nat × TypeId)
 | .err c=>(.tup [rcZ,.bool false,.agg zeroPC,.int .i64 c],[])
 | .out r fresh s n=>(.tup [rcA r,.bool fresh,.agg (ackPC s n),.int .i64 0],[])
def boxOk (b:BxI):Bool:=nameR b.src && decide (1≤b.next) && decide (b.next≤maxT + 1) && decide (b.ahead.Pairwise (· < ·)) && b.ahead.all fun x=>decide (b.next < x) && decide (x≤b.next + 64) && decide (x≤maxT)
def srcLt (r:List BxI):Bool:=decide (r.Pairwise fun a b=>a.src < b.src)
def rcvOk (r:List BxI):Bool:=r.all boxOk && srcLt r && decide (r.length≤16)
end Go.Abs
namespace Go.Proofs.I41
open Go.RowKit Go.Abs Go.Lib
theorem info75:(Try.prog.info? 75).map (fun i=>(i.zero,i.size,i.bytes)) = some (some (.agg #[.string ⟨#[]⟩,.int .i64 0,.slice none 0 0]),3,48):=by kernel_rfl
set_option maxHeartbeats 2000000 in
set_option maxRecDepth 100000 in
theorem clone33 (b off n c:Nat) (news:List Value) (w:World) (hl:news.length = n * 3) (hn:n≤maxLen) (hbig:n * 48≤140737488355328)
  (hc:∀ j u,news[j]? = some u→w.cell? ⟨b,off + j,none⟩ = some u) (h1:∀ u ∈ news,u.oneCell' = true) :
  Calls Try.prog 33 #[.slice (some ⟨b,off,none⟩) n c] w fun e w'=>∃ v',e = .returned v'∧w'.ownsRow w.heap.size 75 3 v' n news∧v' ≠ .slice none 0 0∧Below w.heap.size w w':=by
 obtain ⟨i0,hi0,hz0,hz1,hz2⟩:=info_parts info75
 have t22:=Try.underlying22
 have q22:∀ (w:World) (a:Option Addr) (n c n' c':Nat),(binOp .eql 22 (.slice a n c) (.slice none n' c')).run Try.prog w = .ok (.bool a.isNone) w:=fun w a n c n' c'=>Lib.run_eql_slice_nil w _ _ a n c n' c' Try.underlying22
 have u22:∀ w,Sem.run Try.prog (underlying 22) w = .ok (TypeDesc.slice 75) w:=run_underlying t22
 have A:Aside (∀ j u,news[j]? = some u→w.cell? ⟨b,off + j,none⟩ = some u):=hc
 clear hc
 go_enter Try.func33,Try.ntmps33
 go_wp2_with (at_builtin; refine wpList_append_own _ rfl _ _ 22 rfl w.heap.size 75 i0 _ 3 48 t22 hi0 hz0 hz1 hz2 rfl (by decide) _ _ _ rfl (World.ownsRow_made w #[] 0 (Nat.le_refl _) (Nat.zero_le _) (by simp)) ⟨b,off,none⟩ n c news rfl ?qc1 ?qc2 ?qc3 ?qc4 ?qc5 ?qc6 ?_)
 case qc1=>exact hl
 case qc2 =>
  intro j u hj
  rw [Addr.add_lit]
  exact Lib.cell?_alloc_some _ (A.out j u hj)
 case qc3=>exact h1
 case qc4=>rw [Nat.zero_add]; exact hn
 case qc5=>rw [Nat.zero_add]; exact hbig
 case qc6=>simp
 intro v' w1 hown hgrow hnil
 go_wp2
 go_ret
 refine ⟨v',rfl,by simpa using hown,hnil,?_⟩
 exact ((Below.refl _ w).alloc (Nat.le_refl _) _).grown hgrow (by simp) (by intro k hk; simp [Value.ownBlock] at hk; omega)
theorem cloneNil33 (n c:Nat) (w:World):Calls Try.prog 33 #[.slice none n c] w fun e w'=>e = .returned (.slice none 0 0)∧w' = w:=by
 have q22:∀ (w:World) (a:Option Addr) (n c n' c':Nat),(binOp .eql 22 (.slice a n c) (.slice none n' c')).run Try.prog w = .ok (.bool a.isNone) w:=fun w a n c n' c'=>Lib.run_eql_slice_nil w _ _ a n c n' c' Try.underlying22
 go_enter Try.func33,Try.ntmps33
 go_wp2
 go_ret
 exact ⟨rfl,rfl⟩
theorem cloneEmpty33 (a:Addr) (c:Nat) (w:World):Calls Try.prog 33 #[.slice (some a) 0 c] w fun e w'=>∃ A,e = .returned (.slice A 0 0)∧Below w.heap.size w w':=by
 have q22:∀ (w:World) (a:Option Addr) (n c n' c':Nat),(binOp .eql 22 (.slice a n c) (.slice none n' c')).run Try.prog w = .ok (.bool a.isNone) w:=fun w a n c n' c'=>Lib.run_eql_slice_nil w _ _ a n c n' c' Try.underlying22
 have u22:∀ w,Sem.run Try.prog (underlying 22) w = .ok (TypeDesc.slice 75) w:=run_underlying Try.underlying22
 go_enter Try.func33,Try.ntmps33
 go_wp2
 go_ret
 exact ⟨_,rfl,(Below.refl _ w).alloc (Nat.le_refl _) _⟩
theorem good33:goodFn PI 33:=goodI (by kernel_rfl)
end Go.Proofs.I41
namespace Go.Abs
open Go.Proofs
def s33:ISpec:=sClone 3 48
theorem o33 (m:Int):ISpecOk PI (GI m) 33 s33:=oClone I41.good33 (by decide) I41.clone33 I41.cloneNil33 I41.cloneEmpty33
end Go.Abs
namespace Go.Proofs.I41
open Go.RowKit Go.Abs Go.Lib
theorem info33:(Try.prog.info? 33).map (fun i=>(i.zero,i.size,i.bytes)) = some (some (.agg #[.string ⟨#[]⟩,.int .i64 0,.int .i64 0,.int .i64 0,.string ⟨#[]⟩,.string ⟨#[]⟩,.int .i64 0,.slice none 0 0]),8,104):=by kernel_rfl
set_option maxHeartbeats 2000000 in
set_option maxRecDepth 100000 in
theorem clone44 (b off n c:Nat) (news:List Value) (w:World) (hl:news.length = n * 8) (hn:n≤maxLen) (hbig:n * 104≤140737488355328)
  (hc:∀ j u,news[j]? = some u→w.cell? ⟨b,off + j,none⟩ = some u) (h1:∀ u ∈ news,u.oneCell' = true) :
  Calls Try.prog 44 #[.slice (some ⟨b,off,none⟩) n c] w fun e w'=>∃ v',e = .returned v'∧w'.ownsRow w.heap.size 33 8 v' n news∧v' ≠ .slice none 0 0∧Below w.heap.size w w':=by
 obtain ⟨i0,hi0,hz0,hz1,hz2⟩:=info_parts info33
 have t22:=Try.underlying80
 have q22:∀ (w:World) (a:Option Addr) (n c n' c':Nat),(binOp .eql 80 (.slice a n c) (.slice none n' c')).run Try.prog w = .ok (.bool a.isNone) w:=fun w a n c n' c'=>Lib.run_eql_slice_nil w _ _ a n c n' c' Try.underlying80
 have u22:∀ w,Sem.run Try.prog (underlying 80) w = .ok (TypeDesc.slice 33) w:=run_underlying t22
 have A:Aside (∀ j u,news[j]? = some u→w.cell? ⟨b,off + j,none⟩ = some u):=hc
 clear hc
 go_enter Try.func44,Try.ntmps44
 go_wp2_with (at_builtin; refine wpList_append_own _ rfl _ _ 80 rfl w.heap.size 33 i0 _ 8 104 t22 hi0 hz0 hz1 hz2 rfl (by decide) _ _ _ rfl (World.ownsRow_made w #[] 0 (Nat.le_refl _) (Nat.zero_le _) (by simp)) ⟨b,off,none⟩ n c news rfl ?qc1 ?qc2 ?qc3 ?qc4 ?qc5 ?qc6 ?_)
 case qc1=>exact hl
 case qc2 =>
  intro j u hj
  rw [Addr.add_lit]
  exact Lib.cell?_alloc_some _ (A.out j u hj)
 case qc3=>exact h1
 case qc4=>rw [Nat.zero_add]; exact hn
 case qc5=>rw [Nat.zero_add]; exact hbig
 case qc6=>simp
 intro v' w1 hown hgrow hnil
 go_wp2
 go_ret
 refine ⟨v',rfl,by simpa using hown,hnil,?_⟩
 exact ((Below.refl _ w).alloc (Nat.le_refl _) _).grown hgrow (by simp) (by intro k hk; simp [Value.ownBlock] at hk; omega)
theorem cloneNil44 (n c:Nat) (w:World):Calls Try.prog 44 #[.slice none n c] w fun e w'=>e = .returned (.slice none 0 0)∧w' = w:=by
 have q22:∀ (w:World) (a:Option Addr) (n c n' c':Nat),(binOp .eql 80 (.slice a n c) (.slice none n' c')).run Try.prog w = .ok (.bool a.isNone) w:=fun w a n c n' c'=>Lib.run_eql_slice_nil w _ _ a n c n' c' Try.underlying80
 go_enter Try.func44,Try.ntmps44
 go_wp2
 go_ret
 exact ⟨rfl,rfl⟩
theorem cloneEmpty44 (a:Addr) (c:Nat) (w:World):Calls Try.prog 44 #[.slice (some a) 0 c] w fun e w'=>∃ A,e = .returned (.slice A 0 0)∧Below w.heap.size w w':=by
 have q22:∀ (w:World) (a:Option Addr) (n c n' c':Nat),(binOp .eql 80 (.slice a n c) (.slice none n' c')).run Try.prog w = .ok (.bool a.isNone) w:=fun w a n c n' c'=>Lib.run_eql_slice_nil w _ _ a n c n' c' Try.underlying80
 have u22:∀ w,Sem.run Try.prog (underlying 80) w = .ok (TypeDesc.slice 33) w:=run_underlying Try.underlying80
 go_enter Try.func44,Try.ntmps44
 go_wp2
 go_ret
 exact ⟨_,rfl,(Below.refl _ w).alloc (Nat.le_refl _) _⟩
theorem good44:goodFn PI 44:=goodI (by kernel_rfl)
end Go.Proofs.I41
namespace Go.Abs
open Go.Proofs
def s44:ISpec:=sClone 8 104
theorem o44 (m:Int):ISpecOk PI (GI m) 44 s44:=oClone I41.good44 (by decide) I41.clone44 I41.cloneNil44 I41.cloneEmpty44
end Go.Abs
namespace Go.Proofs.I41
open Go.RowKit Go.Abs Go.Lib
theorem wp_copy_run' {P:Program} (w:World) {o:Oper} {a:Act} {K:Act→World→Prop} {Q:Exit→Act→World→Prop} (d s:Operand) (t t':TypeId)
  (ho:o.op = .call { callee:=.builtin .copy,args:=#[d,s],argTypes:=#[t,t'] }) (v u:Value) (hd:a.eval d = v) (hs:a.eval s = u) {v':Value} {w':World}
  (hr:(Builtin.copy_ #[t,t'] o.type #[v,u]).run P w = .ok v' w') (h:K (a.put o.dst v') w'):o.wp P a w K Q:=by
 unfold Oper.wp execOp
 simp only [ho,resolve,invoke,builtin,Sem.run_bind,Sem.run_pure,Result.andThen_ok,List.map_toArray,List.map_cons,List.map_nil,hd,hs,hr]
 exact h
theorem wpList_copy_run' {P:Program} (w:World) {ops:Array Oper} {rest:List Oper} {o:Oper} {a:Act} {Q:Exit→Act→World→Prop} (hgd:o.guard = none) (d s:Operand) (t t':TypeId)
  (ho:o.op = .call { callee:=.builtin .copy,args:=#[d,s],argTypes:=#[t,t'] }) (v u:Value) (hd:a.eval d = v) (hs:a.eval s = u) {v':Value} {w':World}
  (hr:(Builtin.copy_ #[t,t'] o.type #[v,u]).run P w = .ok v' w') (h:wpList P ops Q rest (a.put o.dst v') w'):wpList P ops Q (o :: rest) a w:=
 wpList_plain hgd fun _ hK=>wp_copy_run' w d s t t' ho v u hd hs hr (hK _ _ h)
theorem step_copy_run' {P:Program} {ops:Array Oper} {o:Oper} {a:Act} {w:World} {K:Act→World→Prop} {Q:Exit→Act→World→Prop} {E:Prop}
  (hg:o.guard = none) (d x:Operand) (dT sT:TypeId) (hop:o.op = Op.call { callee:=Callee.builtin Builtin.copy,args:=#[d,x],argTypes:=#[dT,sT] })
  (v u:Value) (hd:a.eval d = v) (hx:a.eval x = u) {v':Value} {w':World} (hr:(Builtin.copy_ #[dT,sT] o.type #[v,u]).run P w = .ok v' w') (hK:K (a.put o.dst v') w') :
  if Region.wanted o (yielded ops a.tmps) = true then Oper.wp P o a w K Q else E:=by
 have hw:Region.wanted o (yielded ops a.tmps) = true:=by simp [Region.wanted,hg]
 rw [if_pos hw]
 unfold Oper.wp
 simp [execOp,hop,resolve,invoke,builtin,hd,hx,hr,Result.andThen]
 exact hK
theorem isSome_setCells' (b:Nat) (vs:List Value) (o:Nat) (w:World) (h:∀ j,j < vs.length→(w.cell? ⟨b,o + j,none⟩).isSome = true) (k:Nat) (hk:(w.cell? ⟨b,k,none⟩).isSome = true):((w.setCells b o vs).cell? ⟨b,k,none⟩).isSome = true:=by
 by_cases hin:o≤k∧k < o + vs.length
 ·have:=World.cell?_setCells_in b vs o w h (k - o) (by omega)
  rw [show o + (k - o) = k by omega] at this
  rw [this]; rfl
 ·rw [World.cell?_setCells_out b vs o w ⟨b,k,none⟩ (fun _ _=>by show k < o∨o + vs.length≤k; omega)]
  exact hk
theorem run_copy_cellsZ {P:Program} (w:World) (dT sT ty elem:TypeId) (sz b o dLen dCap:Nat) (a:Addr) (sLen sCap:Nat) (cs:List Value)
  (hu:P.underlying dT = some (.slice elem)) (hs:(P.info? elem).map (·.size) = some sz) (hn:cs.length = Nat.min sLen dLen * sz)
  (hsrc:∀ j v,cs[j]? = some v→w.cell? (a.add j) = some v) (hc:∀ j,j < cs.length→(w.cell? ⟨b,o + j,none⟩).isSome = true) (hf:∀ j,j < cs.length→w.frozen? ⟨b,o + j,none⟩ = false) (h1:∀ v ∈ cs,v.oneCell' = true) :
  (Builtin.copy_ #[dT,sT] ty #[.slice (some ⟨b,o,none⟩) dLen dCap,.slice (some a) sLen sCap]).run P w = .ok (goInt (Nat.min sLen dLen)) (w.setCells b o cs):=by
 have hl:=run_loadCells_list (P:=P) w a cs hsrc
 have hst:=run_storeCells_cells (P:=P) b o cs 0 w (by simpa using hc) (by simpa using hf) h1
 cases hq:P.info? elem with
 | none=>simp [hq] at hs
 | some i =>
  have hi:i.size = sz:=by simpa [hq] using hs
  simp [Builtin.copy_,run_underlying hu,Builtin.lenOf,Builtin.firstCells,sizeOf,typeInfo,hq,hi,← hn,hl,hst]
theorem run_overlaps_own {P:Program} (w:World) (tS tR e:TypeId) (ht:P.underlying tS = some (.slice e)) (size:Nat) (hz:∀ w,(Go.sizeOf e).run P w = .ok size w)
  (a b:Addr) (la ca lb cb:Nat) (hne:a.block ≠ b.block) (tA tB:TypeId) (kA kB:Nat) (hsa:w.shape? a.block = some (tA,kA)) (hkA:kA ≠ 0) (hsb:w.shape? b.block = some (tB,kB)) (hkB:kB ≠ 0)
  (hfb:w.frozen? b = false) (hfe:w.frozen? { block:=b.block,off:=kB } = false) :
  (Extern.SlicesOverlaps.overlaps #[tS,tS] #[tR] #[.slice (some a) la ca,.slice (some b) lb cb]).run P w = .ok (.bool false) w:=by
 have hnb:(a.block != b.block) = true:=by simpa using hne
 have hnb':(a.block == b.block) = false:=by simpa using hne
 change Sem.run P (α:=Value) (do
  let some t:=(#[tS,tS]:Array TypeId)[0]? | stuck "slices.overlaps: no parameter types"
  let .slice elem ← underlying t | stuck "slices.overlaps: slice type expected"
  let size ← sizeOf elem
  match (some a:Option Addr),(some b:Option Addr) with
  | some a,some b =>
   if la = 0∨lb = 0∨size = 0 then pure (Value.bool false)
   else if a.block != b.block && (← frozen a) && (← frozen b) then unsupported .addressObserved
   else do
    if a.block != b.block then do
     noView a; noView b
     if ← mayBeOne a b then return Value.bool ((← choose (.extern "sameAddr.stringBytes" 2)) == 1)
    pure (Value.bool (a.block == b.block && a.off < b.off + lb * size && b.off < a.off + la * size))
  | _,_=>pure (Value.bool false)) w = _
 by_cases h0:la = 0∨lb = 0∨size = 0
 ·simp [run_underlying ht,hz,h0]
 ·cases kB with
  | zero=>exact absurd rfl hkB
  | succ kB =>
   cases kA with
   | zero=>exact absurd rfl hkA
   | succ kA =>
    by_cases hfa:w.frozen? a = true
    ·simp [run_underlying ht,hz,h0,hnb,hnb',frozen,noView,viewAt,mayBeOne,stringish,shape,Sem.run,hsa,hsb,hfa,hfb,hfe]
    ·have hfa':w.frozen? a = false:=by simpa using hfa
     by_cases hga:w.frozen? { block:=a.block,off:=kA + 1 } = true
     ·simp [run_underlying ht,hz,h0,hnb,hnb',frozen,noView,viewAt,mayBeOne,stringish,shape,Sem.run,hsa,hsb,hfa',hfb,hfe,hga]
     ·have hga':w.frozen? { block:=a.block,off:=kA + 1 } = false:=by simpa using hga
      simp [run_underlying ht,hz,h0,hnb,hnb',frozen,noView,viewAt,mayBeOne,stringish,shape,Sem.run,hsa,hsb,hfa',hfb,hfe,hga']
set_option maxHeartbeats 4000000 in
set_option maxRecDepth 100000 in
theorem insert_end_room (b n c vb voff vc:Nat) (vs:List Value) (w:World) (hroom:n + 1≤c) (hc63:c≤9223372036854775807)
  (hvl:vs.length = 3) (hsp:∀ j,j < 3→(w.cell? ⟨b,n * 3 + j,none⟩).isSome = true) (hfz:∀ j,j < 3→w.frozen? ⟨b,n * 3 + j,none⟩ = false)
  (hvs:∀ j v,vs[j]? = some v→w.cell? ⟨vb,voff + j,none⟩ = some v) (h1v:∀ v ∈ vs,v.oneCell' = true) :
  Calls Try.prog 34 #[.slice (some ⟨b,0,none⟩) n c,.int .i64 n,.slice (some ⟨vb,voff,none⟩) 1 vc] w fun e w' =>
   e = .returned (.slice (some ⟨b,0,none⟩) (n + 1) c)∧w' = w.setCells b (n * 3) vs:=by
 obtain ⟨i0,hi0,hz0,hz1,hz2⟩:=info_parts info75
 have t22:=Try.underlying22
 have u22:∀ w,Sem.run Try.prog (underlying 22) w = .ok (TypeDesc.slice 75) w:=run_underlying t22
 have hsrc:Src Try.prog i0.size 22 (.slice (some ⟨vb,voff,none⟩) 1 vc) 1 vs w:=by
  rw [hz1]
  exact Src.ofSlice w t22 ⟨vb,voff,none⟩ 1 vc vs (by omega) (fun j u hj=>by rw [Addr.add_lit]; exact hvs j u hj) h1v
 have hrun:∀ ty,(Builtin.append_ #[22,22] ty #[.slice (some ⟨b,0,none⟩) n c,.slice (some ⟨vb,voff,none⟩) 1 vc]).run Try.prog w = .ok (.slice (some ⟨b,0,none⟩) (n + 1) c) (w.setCells b (n * 3) vs):=fun ty=>by
  have h:=run_append_room_src w 22 22 ty 75 i0 t22 hi0 b 0 n c _ 1 vs hsrc hroom (by rw [hz1,hvl,Nat.zero_add]; exact hsp) (by rw [hz1,hvl,Nat.zero_add]; exact hfz)
  rw [hz1,Nat.zero_add] at h
  exact h
 go_enter Try.func34,Try.ntmps34
 go_wp2_with (at_builtin; refine Lib.wpList_append_run _ rfl _ _ _ _ rfl _ _ rfl rfl _ _ (hrun _) ?_)
 go_ret
 exact ⟨rfl,rfl⟩
end Go.Proofs.I41
namespace Go.Proofs.I41
open Go.RowKit Go.Abs Go.Lib
set_option maxHeartbeats 4000000 in
set_option maxRecDepth 100000 in
theorem insert_end_grow (b n c vb voff vc:Nat) (cs vs:List Value) (w:World) (hnc:n≤c) (hroom:c < n + 1) (hbig:(n + 1) * 48≤140737488355328)
  (hcl:cs.length = n * 3) (hvl:vs.length = 3) (hcs:∀ j v,cs[j]? = some v→w.cell? ⟨b,j,none⟩ = some v)
  (hvs:∀ j v,vs[j]? = some v→w.cell? ⟨vb,voff + j,none⟩ = some v) (h1v:∀ v ∈ vs,v.oneCell' = true) :
  Calls Try.prog 34 #[.slice (some ⟨b,0,none⟩) n c,.int .i64 n,.slice (some ⟨vb,voff,none⟩) 1 vc] w fun e w' =>
   ∃ zs:Array Value,e = .returned (.slice (some ⟨w.heap.size,0,none⟩) (n + 1) (grownCap w (n + 1) c 75))∧w' = w.drew.alloc (.cells ((cs ++ vs).toArray ++ zs) 75):=by
 obtain ⟨i0,hi0,hz0,hz1,hz2⟩:=info_parts info75
 have t22:=Try.underlying22
 have u22:∀ w,Sem.run Try.prog (underlying 22) w = .ok (TypeDesc.slice 75) w:=run_underlying t22
 have hsrc:Src Try.prog i0.size 22 (.slice (some ⟨vb,voff,none⟩) 1 vc) 1 vs w:=by
  rw [hz1]
  exact Src.ofSlice w t22 ⟨vb,voff,none⟩ 1 vc vs (by omega) (fun j u hj=>by rw [Addr.add_lit]; exact hvs j u hj) h1v
 have hold:(Builtin.firstCells i0.size n (.slice (some ⟨b,0,none⟩) n c)).run Try.prog w.drew = .ok cs.toArray w.drew:=by
  rw [hz1]
  exact run_firstCells_some w.drew 3 n _ n c cs hcl (fun j v hj=>by rw [Addr.add_lit,Nat.zero_add]; exact hcs j v hj)
 have hrun:∀ ty,(Builtin.append_ #[22,22] ty #[.slice (some ⟨b,0,none⟩) n c,.slice (some ⟨vb,voff,none⟩) 1 vc]).run Try.prog w = _:=fun ty =>
  run_append_grow_src w 22 22 ty 75 i0 _ t22 hi0 hz0 (some ⟨b,0,none⟩) n c cs hold _ 1 vs hsrc hroom (by omega) (by rw [hz2]; exact growslice_fits hroom hbig)
 go_enter Try.func34,Try.ntmps34
 go_wp2_with (at_builtin; refine Lib.wpList_append_run _ rfl _ _ _ _ rfl _ _ rfl rfl _ _ (hrun _) ?_)
 go_ret
 exact ⟨_,rfl,rfl⟩
theorem shape_of_cell {w:World} {b o:Nat} {v:Value} (h:w.cell? ⟨b,o,none⟩ = some v):∃ t k,w.shape? b = some (t,k)∧k ≠ 0:=by
 simp only [World.cell?] at h
 cases hb:w.heap[b]? with
 | none=>simp [hb] at h
 | some ob =>
  cases ob with
  | cells arr t x =>
   refine ⟨t,arr.size,by simp [World.shape?,hb],fun h0=>?_⟩
   simp [hb] at h
   have:=(Array.getElem?_eq_some_iff.1 h).1
   omega
  | _=>simp [hb] at h
set_option maxHeartbeats 4000000 in
set_option maxRecDepth 100000 in
theorem insert_shift (b n c i vb voff vc:Nat) (cs vs:List Value) (arr:Array Value) (ty0:TypeId) (w:World) (hi:i < n) (hroom:n + 1≤c) (hc63:c≤9223372036854775807) (hvb:vb ≠ b)
  (hB:w.heap[b]? = some (.cells arr ty0 (0,0))) (harr:c * 3≤arr.size)
  (hcl:cs.length = n * 3) (hvl:vs.length = 3) (hcs:∀ j v,cs[j]? = some v→w.cell? ⟨b,j,none⟩ = some v)
  (hvs:∀ j v,vs[j]? = some v→w.cell? ⟨vb,voff + j,none⟩ = some v) (h1c:∀ v ∈ cs,v.oneCell' = true) (h1v:∀ v ∈ vs,v.oneCell' = true) :
  Calls Try.prog 34 #[.slice (some ⟨b,0,none⟩) n c,.int .i64 i,.slice (some ⟨vb,voff,none⟩) 1 vc] w fun e w' =>
   e = .returned (.slice (some ⟨b,0,none⟩) (n + 1) c)∧w' = (w.drew.setCells b ((i + 1) * 3) (cs.drop (i * 3))).setCells b (i * 3) vs:=by
 obtain ⟨i0,hi0,hz0,hz1,hz2⟩:=info_parts info75
 have t22:=Try.underlying22
 have t4:=Try.underlying4
 have z75:=Try.sizeOf75
 have u22:∀ w,Sem.run Try.prog (underlying 22) w = .ok (TypeDesc.slice 75) w:=run_underlying t22
 have mixed:Try.prog.follows .mixedOrders = true:=mixedI
 have hq2:¬ ((i:Int) = (n:Int)):=by omega
 have hsz:(Try.prog.info? 75).map (·.size) = some 3:=by rw [hi0]; simp [hz1]
 have hsp:∀ j,j < (n + 1) * 3→(w.cell? ⟨b,j,none⟩).isSome = true:=fun j hj=>by
  simp [World.cell?,hB]; omega
 have hfz:∀ j,w.frozen? ⟨b,j,none⟩ = false:=fun j=>by simp [World.frozen?,hB]
 have hshB:w.shape? b = some (ty0,arr.size):=by simp [World.shape?,hB]
 obtain ⟨tA,kA,hshA,hkA⟩:∃ tA kA,w.shape? vb = some (tA,kA)∧kA ≠ 0:=shape_of_cell (hvs 0 _ (List.getElem?_eq_getElem (by omega)))
 have hov:∀ lb cb,(callFunc 53 #[.slice (some ⟨vb,voff,none⟩) 1 vc,.slice (some ⟨b,(i + 1) * 3,none⟩) lb cb]).run Try.prog w = .ok (.value (.bool false)) w:=fun lb cb=>by
  rw [run_callFunc_extern Try.func53 (by kernel_rfl) (by kernel_rfl) (by kernel_rfl) (e:=Extern.SlicesOverlaps.overlaps #[22,22] #[4]) (by kernel_rfl),
   run_overlaps_own w 22 4 75 t22 3 z75 ⟨vb,voff,none⟩ ⟨b,(i + 1) * 3,none⟩ 1 vc lb cb hvb tA ty0 kA arr.size hshA hkA hshB (by omega) (hfz _) (hfz _)]
  rfl
 have hdl:(cs.drop (i * 3)).length = (n - i) * 3:=by rw [List.length_drop,hcl,Nat.sub_mul]
 have hw1:IntKind.i64.wrap ((i:Int) + 1) = (i:Int) + 1:=by rw [IntKind.wrap_i64]; omega
 have hw2:IntKind.i64.wrap ((n:Int) + 1) = (n:Int) + 1:=by rw [IntKind.wrap_i64]; omega
 have hb1:(0:Int)≤(i:Int) + 1:=by omega
 have hin:i≤n:=by omega
 have htn:((i:Int) + 1).toNat = i + 1:=by omega
 have hb2:¬ (c = i + 1):=by omega
 have hb3:(i:Int)≤(n:Int) + 1:=by omega
 have hb4:¬ (c = i):=by omega
 have hcp1:∀ ty dc sc,(Builtin.copy_ #[22,22] ty #[.slice (some ⟨b,(i + 1) * 3,none⟩) (n + 1 - (i + 1)) dc,.slice (some ⟨b,i * 3,none⟩) (n + 1 - i) sc]).run Try.prog w.drew = .ok (goInt (n - i:Nat)) (w.drew.setCells b ((i + 1) * 3) (cs.drop (i * 3))):=fun ty dc sc=>by
  have hmin:Nat.min (n + 1 - i) (n + 1 - (i + 1)) = n - i:=by simp only [Nat.min_def]; split <;> omega
  have h:=run_copy_cellsZ (P:=Try.prog) w.drew 22 22 ty 75 3 b ((i + 1) * 3) (n + 1 - (i + 1)) dc ⟨b,i * 3,none⟩ (n + 1 - i) sc (cs.drop (i * 3)) t22 hsz (by rw [hdl,hmin])
   (fun j v hj=>by rw [Addr.add_lit]; exact hcs _ v (by rwa [List.getElem?_drop] at hj))
   (fun j hj=>hsp _ (by omega)) (fun j hj=>hfz _) (fun v hv=>h1c v (List.mem_of_mem_drop hv))
  rw [hmin] at h
  exact h
 obtain ⟨W1,hW1⟩:∃ W1,W1 = w.drew.setCells b ((i + 1) * 3) (cs.drop (i * 3)):=⟨_,rfl⟩
 have hsp1:∀ k,k < (n + 1) * 3→(W1.cell? ⟨b,k,none⟩).isSome = true:=fun k hk=>by
  rw [hW1]
  exact isSome_setCells' b (cs.drop (i * 3)) ((i + 1) * 3) w.drew (fun j hj=>hsp _ (by omega)) k (hsp k hk)
 have hcp2:∀ (W:World),(∀ x,W.cell? x = W1.cell? x)→(∀ x,W.frozen? x = W1.frozen? x)→∀ ty dc,(Builtin.copy_ #[22,22] ty #[.slice (some ⟨b,i * 3,none⟩) (n + 1 - i) dc,.slice (some ⟨vb,voff,none⟩) 1 vc]).run Try.prog W = .ok (goInt (1:Nat)) (W.setCells b (i * 3) vs):=fun W hWc hWf ty dc=>by
  have hmin:Nat.min 1 (n + 1 - i) = 1:=by simp only [Nat.min_def]; split <;> omega
  have h:=run_copy_cellsZ (P:=Try.prog) W 22 22 ty 75 3 b (i * 3) (n + 1 - i) dc ⟨vb,voff,none⟩ 1 vc vs t22 hsz (by rw [hvl,hmin])
   (fun j v hj=>by
    rw [Addr.add_lit,hWc,hW1,World.cell?_setCells_out b _ _ _ _ (fun h _=>absurd h hvb)]
    exact hvs j v hj)
   (fun j hj=>by rw [hWc]; exact hsp1 _ (by omega)) (fun j hj=>by rw [hWf,hW1,World.frozen?_setCells]; exact hfz _) h1v
  rw [hmin] at h
  exact h
 rw [← hW1] at hcp1
 clear hB harr hshA hshB hdl
 go_enter Try.func34,Try.ntmps34
 go_wp2_with (simp only [hov])
 go_region_law_o (refine step_copy_run' rfl _ _ 22 22 rfl (.slice (some ⟨b,(i + 1) * 3,none⟩) (n + 1 - (i + 1)) (c - (i + 1))) (.slice (some ⟨b,i * 3,none⟩) (n + 1 - i) (c - i)) (by simp [Act.eval,Act.put]) (by simp [Act.eval,Act.put]) (hcp1 _ _ _) ?_)
 go_wp2_with (at_builtin; refine wpList_copy_run' _ rfl _ _ 22 22 rfl _ _ rfl rfl (hcp2 _ (fun _=>rfl) (fun _=>rfl) _ _) ?_)
 go_ret
 first | exact ⟨rfl,rfl⟩ | exact ⟨rfl,by rw [hW1]⟩
end Go.Proofs.I41
namespace Go.Proofs.I41
open Go.RowKit Go.Abs Go.Lib
set_option maxHeartbeats 4000000 in
set_option maxRecDepth 100000 in
theorem insert_grow (b n c i vb voff vc:Nat) (cs vs:List Value) (w:World) (hi:i < n) (hnc:n≤c) (hroom:c < n + 1) (hbig:(n + 1) * 48≤140737488355328)
  (hcl:cs.length = n * 3) (hvl:vs.length = 3) (hcs:∀ j v,cs[j]? = some v→w.cell? ⟨b,j,none⟩ = some v)
  (hvs:∀ j v,vs[j]? = some v→w.cell? ⟨vb,voff + j,none⟩ = some v) (h1c:∀ v ∈ cs,v.oneCell' = true) (h1v:∀ v ∈ vs,v.oneCell' = true) :
  Calls Try.prog 34 #[.slice (some ⟨b,0,none⟩) n c,.int .i64 i,.slice (some ⟨vb,voff,none⟩) 1 vc] w fun e w' =>
   ∃ ROW:Array Value,(n + 1) * 3≤ROW.size∧(∀ (j:Nat) (v:Value),(cs.take (i * 3))[j]? = some v→ROW[j]? = some v)∧e = .returned (.slice (some ⟨w.heap.size,0,none⟩) (n + 1) (grownCap w (n + 1) c 75)) ∧
    w' = (((w.alloc (.cells ROW 75)).drew.setCells w.heap.size (i * 3) vs).drew).setCells w.heap.size ((i + 1) * 3) (cs.drop (i * 3)):=by
 obtain ⟨i0,hi0,hz0,hz1,hz2⟩:=info_parts info75
 have t22:=Try.underlying22
 have t3:=Try.underlying3
 have u22:∀ w,Sem.run Try.prog (underlying 22) w = .ok (TypeDesc.slice 75) w:=run_underlying t22
 have mixed:Try.prog.follows .mixedOrders = true:=mixedI
 have hq2:¬ ((i:Int) = (n:Int)):=by omega
 have hq3:(c:Int) < (n:Int) + 1:=by omega
 have hsz:(Try.prog.info? 75).map (·.size) = some 3:=by rw [hi0]; simp [hz1]
 have hbw:b < w.heap.size:=block_lt_of_cell (hcs 0 _ (List.getElem?_eq_getElem (by omega)))
 have hvw:vb < w.heap.size:=block_lt_of_cell (hvs 0 _ (List.getElem?_eq_getElem (by omega)))
 have hkk:(n:Int) + 1 - (i:Int) = ((n + 1 - i:Nat):Int):=by omega
 have hik:i + (n + 1 - i) = n + 1:=by omega
 have hold:(Builtin.firstCells i0.size i (.slice (some ⟨b,0,none⟩) i c)).run Try.prog w.drew = .ok (cs.take (i * 3)).toArray w.drew:=by
  rw [hz1]
  exact run_firstCells_some w.drew 3 i ⟨b,0,none⟩ i c (cs.take (i * 3)) (by rw [List.length_take]; omega) (fun j v hj=>by
   rw [Addr.add_lit,Nat.zero_add]
   rw [List.getElem?_take] at hj
   split at hj
   ·exact hcs j v hj
   ·cases hj)
 obtain ⟨G,hG⟩:∃ G,G = grownCap w (n + 1) c 75:=⟨_,rfl⟩
 obtain ⟨ROW,hRl,hRa,hrz⟩:∃ ROW:Array Value,(n + 1) * 3≤ROW.size∧(∀ (j:Nat) (v:Value),(cs.take (i * 3))[j]? = some v→ROW[j]? = some v)∧∀ ty,(Builtin.append_ #[22,3] ty #[.slice (some ⟨b,0,none⟩) i c,.int .i64 ((n:Int) + 1 - (i:Int))]).run Try.prog w =
   .ok (.slice (some ⟨w.heap.size,0,none⟩) (n + 1) G) (w.drew.alloc (.cells ROW 75)):=by
  refine ⟨(cs.take (i * 3)).toArray ++ Builtin.zeroCells (Value.agg #[.string ⟨#[]⟩,.int .i64 0,.slice none 0 0]).cells (n + 1 - i) ++ Builtin.zeroCells (Value.agg #[.string ⟨#[]⟩,.int .i64 0,.slice none 0 0]).cells (G - (n + 1)),?_,?_,fun ty=>?_⟩
  rotate_left 2
  ·have h:=Lib.run_append_grow_zeros w 22 3 ty 75 i0 _ .i64 .i64 t22 t3 hi0 hz0 (some ⟨b,0,none⟩) i c (cs.take (i * 3)) hold (n + 1 - i) (by omega) (by omega) (by omega) (by omega) (by rw [hz2]; omega) (by rw [hz2,hik]; exact growslice_fits hroom hbig)
   rw [hik] at h
   rw [hkk,hG]
   exact h
  ·simp [Builtin.zeroCells,Value.cells]; omega
  ·intro j v hj
   have hlt:=(List.getElem?_eq_some_iff.1 hj).1
   rw [Array.getElem?_append_left (by simp at hlt ⊢; omega),Array.getElem?_append_left (by simpa using hlt)]
   simpa using hj
 rw [← hG]
 obtain ⟨W1,hW1⟩:∃ W1,W1 = w.drew.alloc (.cells ROW 75):=⟨_,rfl⟩
 rw [← hW1] at hrz
 have hN:∀ j,j < (n + 1) * 3→(W1.cell? ⟨w.heap.size,j,none⟩).isSome = true:=fun j hj=>by
  rw [hW1,World.cell?_alloc_at (w:=w.drew) ROW _ w.heap.size j rfl,Array.getElem?_eq_getElem (by omega)]; rfl
 have hNf:∀ j,W1.frozen? ⟨w.heap.size,j,none⟩ = false:=fun j=>by rw [hW1]; exact World.frozen?_alloc_at (w:=w.drew) ROW _ w.heap.size j rfl
 have hOb:∀ j v,w.cell? ⟨b,j,none⟩ = some v→W1.cell? ⟨b,j,none⟩ = some v:=fun j v h=>by rw [hW1,World.cell?_alloc_past (w:=w.drew) _ b j hbw]; exact h
 have hOv:∀ j v,w.cell? ⟨vb,j,none⟩ = some v→W1.cell? ⟨vb,j,none⟩ = some v:=fun j v h=>by rw [hW1,World.cell?_alloc_past (w:=w.drew) _ vb j hvw]; exact h
 have hcpA:∀ (W:World),(∀ x,W.cell? x = W1.cell? x)→(∀ x,W.frozen? x = W1.frozen? x)→∀ ty dc,(Builtin.copy_ #[22,22] ty #[.slice (some ⟨w.heap.size,i * 3,none⟩) (n + 1 - i) dc,.slice (some ⟨vb,voff,none⟩) 1 vc]).run Try.prog W = .ok (goInt (1:Nat)) (W.setCells w.heap.size (i * 3) vs):=fun W hWc hWf ty dc=>by
  have hmin:Nat.min 1 (n + 1 - i) = 1:=by simp only [Nat.min_def]; split <;> omega
  have h:=run_copy_cellsZ (P:=Try.prog) W 22 22 ty 75 3 w.heap.size (i * 3) (n + 1 - i) dc ⟨vb,voff,none⟩ 1 vc vs t22 hsz (by rw [hvl,hmin])
   (fun j v hj=>by rw [Addr.add_lit,hWc]; exact hOv _ v (hvs j v hj))
   (fun j hj=>by rw [hWc]; exact hN _ (by omega)) (fun j hj=>by rw [hWf]; exact hNf _) h1v
  rw [hmin] at h
  exact h
 have hGn:n + 1≤G:=by rw [hG]; exact grownCap_ge w _ _ _
 have hG63:G≤9223372036854775807:=by
  have:=grownCap_le_maxLen w (n + 1) c 75 (by unfold maxLen; omega)
  rw [← hG] at this
  unfold maxLen at this
  omega
 have hGi:¬ (G = i):=by omega
 have hGim:¬ (G = i + 1):=by omega
 have hci:¬ (c = i):=by omega
 have hbN:b ≠ w.heap.size:=by omega
 have hdl:(cs.drop (i * 3)).length = (n - i) * 3:=by rw [List.length_drop,hcl,Nat.sub_mul]
 have hcpB:∀ (W:World),(∀ x,W.cell? x = (W1.setCells w.heap.size (i * 3) vs).cell? x)→(∀ x,W.frozen? x = (W1.setCells w.heap.size (i * 3) vs).frozen? x)→∀ ty dc sc,(Builtin.copy_ #[22,22] ty #[.slice (some ⟨w.heap.size,(i + 1) * 3,none⟩) (n + 1 - (i + 1)) dc,.slice (some ⟨b,i * 3,none⟩) (n - i) sc]).run Try.prog W = .ok (goInt (n - i:Nat)) (W.setCells w.heap.size ((i + 1) * 3) (cs.drop (i * 3))):=fun W hWc hWf ty dc sc=>by
  have hmin:Nat.min (n - i) (n + 1 - (i + 1)) = n - i:=by simp only [Nat.min_def]; split <;> omega
  have h:=run_copy_cellsZ (P:=Try.prog) W 22 22 ty 75 3 w.heap.size ((i + 1) * 3) (n + 1 - (i + 1)) dc ⟨b,i * 3,none⟩ (n - i) sc (cs.drop (i * 3)) t22 hsz (by rw [hdl,hmin])
   (fun j v hj=>by
    rw [Addr.add_lit,hWc,World.cell?_setCells_out _ _ _ _ _ (fun h _=>absurd h hbN)]
    exact hOb _ v (hcs _ v (by rwa [List.getElem?_drop] at hj)))
   (fun j hj=>by rw [hWc]; exact isSome_setCells' w.heap.size vs (i * 3) W1 (fun t ht=>hN _ (by omega)) _ (hN _ (by omega)))
   (fun j hj=>by rw [hWf,World.frozen?_setCells]; exact hNf _) (fun v hv=>h1c v (List.mem_of_mem_drop hv))
  rw [hmin] at h
  exact h
 subst hW1
 have hE1:∀ x,((w.alloc (.cells ROW 75)).drew).cell? x = (w.drew.alloc (.cells ROW 75)).cell? x:=fun x=>rfl
 have hE2:∀ x,((w.alloc (.cells ROW 75)).drew).frozen? x = (w.drew.alloc (.cells ROW 75)).frozen? x:=fun x=>rfl
 have hF1:∀ x,(((w.alloc (.cells ROW 75)).drew.setCells w.heap.size (i * 3) vs).drew).cell? x = ((w.drew.alloc (.cells ROW 75)).setCells w.heap.size (i * 3) vs).cell? x:=fun x=>rfl
 have hF2:∀ x,(((w.alloc (.cells ROW 75)).drew.setCells w.heap.size (i * 3) vs).drew).frozen? x = ((w.drew.alloc (.cells ROW 75)).setCells w.heap.size (i * 3) vs).frozen? x:=fun x=>rfl
 have hw1:IntKind.i64.wrap ((i:Int) + 1) = (i:Int) + 1:=by rw [IntKind.wrap_i64]; omega
 have hw2:IntKind.i64.wrap ((n:Int) + 1) = (n:Int) + 1:=by rw [IntKind.wrap_i64]; omega
 have hb1:(0:Int)≤(i:Int) + 1:=by omega
 have hin:i≤n:=by omega
 have htn:((i:Int) + 1).toNat = i + 1:=by omega
 have hb3:(i:Int)≤(n:Int):=by omega
 clear hkk hik hold hG hdl
 go_enter Try.func34,Try.ntmps34
 go_wp2_with (first
  | (at_builtin; refine Lib.wpList_append_run _ rfl _ _ _ _ rfl _ _ rfl rfl _ _ (hrz _) ?_)
  | (at_builtin; refine wpList_copy_run' _ rfl _ _ 22 22 rfl _ _ rfl rfl (hcpA _ hE1 hE2 _ _) ?_))
 go_region_law_o (refine step_copy_run' rfl _ _ 22 22 rfl (.slice (some ⟨w.heap.size,(i + 1) * 3,none⟩) (n + 1 - (i + 1)) (G - (i + 1))) (.slice (some ⟨b,i * 3,none⟩) (n - i) (c - i)) (by simp [Act.eval,Act.put]) (by simp [Act.eval,Act.put]) (hcpB _ hF1 hF2 3 (G - (i + 1)) (c - i)) ?_)
 go_wp2
 go_ret
 exact ⟨ROW,hRl,hRa,rfl,rfl⟩
end Go.Proofs.I41
namespace Go.Proofs.I41
open Go.RowKit Go.Abs Go.Lib
theorem there_of {w:World} {b:Nat} {arr:Array Value} {ty:TypeId} (hB:w.heap[b]? = some (.cells arr ty (0,0))) {j:Nat} (hj:j < arr.size):(w.cell? ⟨b,j,none⟩).isSome = true:=by
 simp [World.cell?,hB]; exact hj
theorem free_of {w:World} {b:Nat} {arr:Array Value} {ty:TypeId} (hB:w.heap[b]? = some (.cells arr ty (0,0))) (j:Nat):w.frozen? ⟨b,j,none⟩ = false:=by
 simp [World.frozen?,hB]
theorem sets_at {w:World} {b:Nat} (vs:List Value) (o:Nat) (h:∀ j,j < vs.length→(w.cell? ⟨b,o + j,none⟩).isSome = true) (q:Nat):(w.setCells b o vs).cell? ⟨b,q,none⟩ = if o≤q∧q < o + vs.length then vs[q - o]? else w.cell? ⟨b,q,none⟩:=by
 split
 ·rename_i hq
  have:=World.cell?_setCells_in b vs o w h (q - o) (by omega)
  rw [show o + (q - o) = q by omega] at this
  rw [this,List.getElem?_eq_getElem]
 ·rename_i hq
  exact World.cell?_setCells_out b vs o w _ (fun _ _=>by show q < o∨o + vs.length≤q; omega)
theorem insert34:InsOk Try.prog 34 3 48:=by
 intro b n c i vb voff vc cs vs arr ty0 w hin hn0 hnc hcm hvb hB harr hbig hcl hvl hcs hvs h1c h1v
 have hcm':c≤9223372036854775807:=by unfold maxLen at hcm; omega
 have hbw:b < w.heap.size:=(Array.getElem?_eq_some_iff.1 hB).1
 have hcap:=grownCap_ge w (n + 1) c 75
 have hcap2:=grownCap_le_maxLen w (n + 1) c 75 (by unfold maxLen; omega)
 have hlt:(cs.take (i * 3)).length = i * 3:=by rw [List.length_take]; omega
 have hld:(cs.drop (i * 3)).length = (n - i) * 3:=by rw [List.length_drop,hcl,Nat.sub_mul]
 by_cases hroom:n + 1≤c
 ·by_cases hi:i < n
  ·refine (insert_shift b n c i vb voff vc cs vs arr ty0 w hi hroom hcm' hvb hB harr hcl hvl hcs hvs h1c h1v).mono ?_
   rintro e w' ⟨rfl,rfl⟩
   refine ⟨b,c,rfl,hroom,hcm,fun j u hj=>?_,.inl ⟨rfl,((InPl.refl b w).drew.sets _ _).sets _ _⟩⟩
   have hth:∀ q,q < (n + 1) * 3→(w.drew.cell? ⟨b,q,none⟩).isSome = true:=fun q hq=>there_of hB (by omega)
   have hth2:∀ q,q < (n + 1) * 3→((w.drew.setCells b ((i + 1) * 3) (cs.drop (i * 3))).cell? ⟨b,q,none⟩).isSome = true:=fun q hq=>isSome_setCells' b _ _ _ (fun j hj=>hth _ (by omega)) q (hth q hq)
   rw [sets_at vs (i * 3) (fun q hq=>hth2 _ (by omega)),sets_at _ _ (fun q hq=>hth _ (by omega))]
   by_cases h1:j < i * 3
   ·rw [if_neg (by omega),if_neg (by omega)]
    rw [List.append_assoc,List.getElem?_append_left (by omega),List.getElem?_take,if_pos h1] at hj
    exact hcs j u hj
   ·by_cases h2:j < i * 3 + 3
    ·rw [if_pos (by omega)]
     rw [List.append_assoc,List.getElem?_append_right (by omega),hlt,List.getElem?_append_left (by omega)] at hj
     exact hj
    ·rw [List.append_assoc,List.getElem?_append_right (by omega),hlt,List.getElem?_append_right (by omega),hvl] at hj
     have:=(List.getElem?_eq_some_iff.1 hj).1
     rw [if_neg (by omega),if_pos (by omega),← hj]
     congr 1; omega
  ·obtain rfl:i = n:=by omega
   refine (insert_end_room b i c vb voff vc vs w hroom hcm' hvl (fun j hj=>there_of hB (by omega)) (fun j _=>free_of hB _) hvs h1v).mono ?_
   rintro e w' ⟨rfl,rfl⟩
   refine ⟨b,c,rfl,hroom,hcm,fun j u hj=>?_,.inl ⟨rfl,(InPl.refl b w).sets _ _⟩⟩
   rw [sets_at vs (i * 3) (fun q hq=>there_of hB (by omega))]
   have hd0:cs.drop (i * 3) = []:=List.drop_eq_nil_of_le (by omega)
   rw [hd0,List.append_nil] at hj
   by_cases h1:j < i * 3
   ·rw [if_neg (by omega)]
    rw [List.getElem?_append_left (by omega),List.getElem?_take,if_pos h1] at hj
    exact hcs j u hj
   ·rw [List.getElem?_append_right (by omega),hlt] at hj
    have:=(List.getElem?_eq_some_iff.1 hj).1
    rw [if_pos (by omega)]; exact hj
 ·by_cases hi:i < n
  ·refine (insert_grow b n c i vb voff vc cs vs w hi hnc (by omega) hbig hcl hvl hcs hvs h1c h1v).mono ?_
   rintro e w' ⟨ROW,hR1,hR2,rfl,rfl⟩
   refine ⟨w.heap.size,_,rfl,hcap,hcap2,fun j u hj=>?_,.inr ⟨Nat.le_refl _,?_,?_⟩⟩
   ·have hth:∀ q,q < (n + 1) * 3→((w.alloc (.cells ROW 75)).drew.cell? ⟨w.heap.size,q,none⟩).isSome = true:=fun q hq=>by
     have:(w.alloc (.cells ROW 75)).cell? ⟨w.heap.size,q,none⟩ = ROW[q]?:=World.cell?_alloc_at (w:=w) ROW _ w.heap.size q rfl
     show ((w.alloc (.cells ROW 75)).cell? ⟨w.heap.size,q,none⟩).isSome = true
     rw [this,Array.getElem?_eq_getElem (by omega)]; rfl
    have hth2:∀ q,q < (n + 1) * 3→(((w.alloc (.cells ROW 75)).drew.setCells w.heap.size (i * 3) vs).drew.cell? ⟨w.heap.size,q,none⟩).isSome = true:=fun q hq=>isSome_setCells' w.heap.size vs (i * 3) _ (fun j hj=>hth _ (by omega)) q (hth q hq)
    rw [sets_at _ _ (fun q hq=>hth2 _ (by omega))]
    by_cases h1:j < i * 3
    ·rw [if_neg (by omega)]
     show ((w.alloc (.cells ROW 75)).drew.setCells w.heap.size (i * 3) vs).cell? ⟨w.heap.size,j,none⟩ = some u
     rw [sets_at _ _ (fun q hq=>hth _ (by omega)),if_neg (by omega)]
     rw [List.append_assoc,List.getElem?_append_left (by omega)] at hj
     have:(w.alloc (.cells ROW 75)).cell? ⟨w.heap.size,j,none⟩ = ROW[j]?:=World.cell?_alloc_at (w:=w) ROW _ w.heap.size j rfl
     show (w.alloc (.cells ROW 75)).cell? ⟨w.heap.size,j,none⟩ = some u
     rw [this]
     exact hR2 j u hj
    ·by_cases h2:j < i * 3 + 3
     ·rw [if_neg (by omega)]
      show ((w.alloc (.cells ROW 75)).drew.setCells w.heap.size (i * 3) vs).cell? ⟨w.heap.size,j,none⟩ = some u
      rw [sets_at _ _ (fun q hq=>hth _ (by omega)),if_pos (by omega)]
      rw [List.append_assoc,List.getElem?_append_right (by omega),hlt,List.getElem?_append_left (by omega)] at hj
      exact hj
     ·rw [List.append_assoc,List.getElem?_append_right (by omega),hlt,List.getElem?_append_right (by omega),hvl] at hj
      have:=(List.getElem?_eq_some_iff.1 hj).1
      rw [if_pos (by omega),← hj]
      congr 1; omega
   ·have:=((InPl.refl w.heap.size (w.alloc (.cells ROW 75))).drew.sets vs (i * 3)).drew.sets (cs.drop (i * 3)) ((i + 1) * 3)
    rw [this.size]; simp
   ·have h1:InPl w.heap.size (w.alloc (.cells ROW 75)) ((((w.alloc (.cells ROW 75)).drew.setCells w.heap.size (i * 3) vs).drew).setCells w.heap.size ((i + 1) * 3) (cs.drop (i * 3))):=((InPl.refl w.heap.size (w.alloc (.cells ROW 75))).drew.sets vs (i * 3)).drew.sets (cs.drop (i * 3)) ((i + 1) * 3)
    exact (below_alloc w _).trans (h1.below (Nat.le_refl _))
  ·obtain rfl:i = n:=by omega
   refine (insert_end_grow b i c vb voff vc cs vs w hnc (by omega) hbig hcl hvl hcs hvs h1v).mono ?_
   rintro e w' ⟨zs,rfl,rfl⟩
   refine ⟨w.heap.size,_,rfl,hcap,hcap2,fun j u hj=>?_,.inr ⟨Nat.le_refl _,by simp,(below_drew w).alloc (Nat.le_refl _) _⟩⟩
   have hd0:cs.drop (i * 3) = []:=List.drop_eq_nil_of_le (by omega)
   rw [hd0,List.append_nil,List.take_of_length_le (by omega)] at hj
   have hjl:=(List.getElem?_eq_some_iff.1 hj).1
   have:(w.drew.alloc (.cells ((cs ++ vs).toArray ++ zs) 75)).cell? ⟨w.heap.size,j,none⟩ = ((cs ++ vs).toArray ++ zs)[j]?:=World.cell?_alloc_at (w:=w.drew) _ _ w.heap.size j rfl
   rw [this,Array.getElem?_append_left (by simpa using hjl)]
   simpa using hj
theorem good34:goodFn PI 34:=goodI (by kernel_rfl)
end Go.Proofs.I41
namespace Go.Abs
open Go.Proofs
def s34:ISpec:=sInsert 3 48
theorem o34 (m:Int):ISpecOk PI (GI m) 34 s34:=oInsert I41.good34 (by decide) I41.insert34
end Go.Abs
namespace Go.Proofs
open Go.RowKit Go.Maps Go.Sort Go.Shelf
theorem Try.sorts40 (m:Nat):AnyZ.SortsIn Try.prog Try.sorted40_ren Fence.wide m:=
  ⟨fun blk off cap ss W hH hblk hsz=>callsIn_wide.2 (AnyM.slices_Sort_string Try.sort59 blk off cap ss W hH hblk hsz),
   fun p cap W=>callsIn_wide.2 (AnyM.slices_Sort_string_none Try.sort59 p cap W)⟩
theorem Try.maps_Keys_41 (mb:Option Nat) (W:World):CallsIn Fence.wide 5 Try.prog 41 #[.map mb] W fun e w'=>e = .returned (.func (.func 60) #[] #[.pointer (some ⟨W.heap.size,0,none⟩)])∧w' = W.alloc (.cells #[.map mb] 112):=
 AnyZ.keys_in Try.keys41 Fence.wide 5 trivial rfl mb W
set_option maxHeartbeats 2000000 in
theorem Try.sorted_keys_40 {H:Type} (Bm b nn:Nat) (D0:DataW H) (R:Value→Option (DataW H × List MemPlace)) (w:World) (hBm:Bm < w.heap.size) (hm:w.cell? ⟨Bm,0,none⟩ = some (.map (some b))) (hown:w.ownsMap Try.prog 9 R b nn D0) (hmax:Maps.size D0≤maxLen) (hbytes:Maps.size D0 * 16≤140737488355328) :
  CallsIn Fence.wide 5 Try.prog 40 #[.func (.func 60) #[] #[.pointer (some ⟨Bm,0,none⟩)]] w fun e w'=>∃ (v:Value) (ss:List (List UInt8)),e = .returned v∧ss.Perm (strKeys D0) ∧
   w'.ownsRow w.heap.size 9 1 v ss.length ((ss.mergeSort (fun x y=>decide (x≤y))).map encStr)∧(v = .slice none 0 0 ↔ ss = [])∧Below w.heap.size w w':=by
 have hseq:SeqGives Fence.wide 2 Try.prog 60 #[.pointer (some ⟨Bm,0,none⟩)] encStr (fun ss=>ss.Perm (strKeys D0)) (Maps.size D0) w:=
  AnyZ.keys_gives (ρ:=Try.keys41_ren) { Try.keys41 with } Fence.wide _ trivial rfl (by omega) Bm b nn D0 w hBm hm hown
 exact AnyZ.sorted_in Try.sorted40 Fence.wide 5 trivial trivial trivial trivial rfl (by omega) (Try.sorts40 _) (enters_of Try.func59 (by kernel_rfl) rfl) 60 #[.pointer (some ⟨Bm,0,none⟩)] trivial (enters_of Try.func60 (by kernel_rfl) rfl) _ _ hmax hbytes _ hseq
theorem Try.sorts31 (m:Nat):AnyZI.SortsIn Try.prog Try.sorted31_ren Fence.wide m:=
  ⟨fun blk off cap ss W hH hblk hsz=>callsIn_wide.2 (Try.slices_Sort_int blk off cap ss W hH hblk hsz),
   fun p cap W=>callsIn_wide.2 (Try.slices_Sort_int_none p cap W)⟩
theorem Try.maps_Keys_32 (mb:Option Nat) (W:World):CallsIn Fence.wide 5 Try.prog 32 #[.map mb] W fun e w'=>e = .returned (.func (.func 52) #[] #[.pointer (some ⟨W.heap.size,0,none⟩)])∧w' = W.alloc (.cells #[.map mb] 100):=
 AnyZI.keys_in Try.keys32 Fence.wide 5 trivial rfl mb W
set_option maxHeartbeats 2000000 in
theorem Try.sorted_keys_31 {H:Type} (Bm b nn:Nat) (D0:DataW H) (R:Value→Option (DataW H × List MemPlace)) (w:World) (hBm:Bm < w.heap.size) (hm:w.cell? ⟨Bm,0,none⟩ = some (.map (some b))) (hown:w.ownsMap Try.prog 3 R b nn D0) (hmax:Maps.size D0≤maxLen) (hbytes:Maps.size D0 * 8≤140737488355328) :
  CallsIn Fence.wide 5 Try.prog 31 #[.func (.func 52) #[] #[.pointer (some ⟨Bm,0,none⟩)]] w fun e w'=>∃ (v:Value) (ss:List (Int)),e = .returned v∧ss.Perm (intKeys D0) ∧
   w'.ownsRow w.heap.size 3 1 v ss.length ((ss.mergeSort (fun x y=>decide (x≤y))).map encZ)∧(v = .slice none 0 0 ↔ ss = [])∧Below w.heap.size w w':=by
 have hseq:SeqGives Fence.wide 2 Try.prog 52 #[.pointer (some ⟨Bm,0,none⟩)] encZ (fun ss=>ss.Perm (intKeys D0)) (Maps.size D0) w:=
  AnyZI.keys_gives (ρ:=Try.keys32_ren) { Try.keys32 with } Fence.wide _ trivial rfl (by omega) Bm b nn D0 w hBm hm hown
 exact AnyZI.sorted_in Try.sorted31 Fence.wide 5 trivial trivial trivial trivial rfl (by omega) (Try.sorts31 _) (enters_of Try.func51 (by kernel_rfl) rfl) 52 #[.pointer (some ⟨Bm,0,none⟩)] trivial (enters_of Try.func52 (by kernel_rfl) rfl) _ _ hmax hbytes _ hseq
end Go.Proofs
namespace Go.Abs
open Go.Proofs Go.RowKit
def s30:Spec:=fun args=>match args with
 | [.str a,.str b]=>some (.int .i64 (Lib.compareBytes a b),[])
 | _=>none
theorem o30 (m:Int):SpecOk PI (GI m) 30 s30:=by
 intro g args r lv h E w vs hI hG hn' hv hcl
 simp only at h
 split at h
 case isFalse=>cases h
 case isTrue e =>
 subst e
 unfold s30 at h
 split at h
 case h_2=>cases h
 case h_1 l k =>
 simp only [Option.some.injEq,Prod.mk.injEq] at h
 obtain ⟨rfl,rfl⟩:=h
 obtain ⟨a,b,rfl⟩:=vs_two hn'
 obtain ⟨s,rfl,hs⟩:=rep_str (hv 0 _ _ rfl rfl)
 obtain ⟨t,rfl,ht⟩:=rep_str (hv 1 _ _ rfl rfl)
 refine .inl ⟨goodI (by kernel_rfl),(Try.strings_Compare s t w).mono fun e w' ⟨he,hw⟩=>⟨_,he,?_⟩⟩
 subst hw
 rw [← hs,← ht]
 exact res_same fun B K=>.int _ _
def s29:Spec:=fun args=>match args with
 | [.agg [.str a,.int .i64 _,.sl sz _ .no],.str t]=>if sz = 1 then some (.int .i64 (Lib.compareBytes a t),[]) else none
 | _=>none
def s32:ISpec:=sKeys 52
def s31:ISpec:=sSorted 52 100 (fun es=>(keysZ es).Nodup) fun es=>(sortZ (keysZ es)).map (.int .i64)
def s41:ISpec:=sKeys 60
def s40:ISpec:=sSorted 60 112 (fun es=>(keysM es).Nodup) fun es=>(keptSort (keysM es)).map .str
theorem o32 (m:Int):ISpecOk PI (GI m) 32 s32:=oKeys (goodI (by kernel_rfl)) Try.maps_Keys_32
theorem o41 (m:Int):ISpecOk PI (GI m) 41 s41:=oKeys (goodI (by kernel_rfl)) Try.maps_Keys_41
theorem o31 (m:Int):ISpecOk PI (GI m) 31 s31:=oSortedZ (k:=3) (e:=4) (goodI (by kernel_rfl)) (by kernel_rfl) (by kernel_rfl) fun Bm b nn D0 w h1 h2 h3 h4 h5=>Try.sorted_keys_31 Bm b nn D0 rdE w h1 h2 h3 h4 h5
theorem o40 (m:Int):ISpecOk PI (GI m) 40 s40:=oSortedS (k:=9) (e:=4) (goodI (by kernel_rfl)) (by kernel_rfl) (by kernel_rfl) fun Bm b nn D0 w h1 h2 h3 h4 h5=>Try.sorted_keys_40 Bm b nn D0 rdE w h1 h2 h3 h4 h5
def shIB:Sh × Option TypeId:=(.tup [.one (.int .i64),.one .bool],none)
def XR:Shapes:=fun f=>match f with
 | 27 | 35=>some shB
 | 29 | 30=>some shI
 | 28=>some shIB
 | _=>none
def a28 (r:List BxI) (t:List UInt8) (o:Own):Anns:=⟨fun k=>if k = 3 then some { α:=Int × Int,slots:=[0,1,2,8,9,10],nb:=0,vals:=fun n=>[.sl 3 (bxsL r) o,.str t,.fn 29 [],.int .i64 r.length,.int .i64 n.1,.int .i64 n.2],sS:=fun _=>⟨[],[]⟩,I:=fun n=>∃ i j:Nat,n = (↑i,↑j)∧i≤lowB r t∧lowB r t≤j∧j≤r.length,μ:=fun n=>(n.2 - n.1).toNat } else none,nA⟩
def a28e (sz:Nat) (o:Own) (t:List UInt8):Anns:=⟨fun k=>if k = 3 then some { α:=Unit,slots:=[0,1,2,8,9,10],nb:=0,vals:=fun _=>[.sl sz [] o,.str t,.fn 29 [],.int .i64 0,.int .i64 0,.int .i64 0],sS:=fun _=>⟨[],[]⟩,I:=fun _=>True,μ:=fun _=>0 } else none,nA⟩
end Go.Abs
namespace Go.Abs
open Go.Proofs
theorem w29 (m n:Int) (a t:List UInt8) (es:List AV):(pureW PI (GI m) XR (tbl [(30,s30)]) (itbl []) nAn [] 29 [.agg [.str a,.int .i64 n,.sl 1 es .no],.str t] (.int .i64 (Lib.compareBytes a t),[])) =
(∃ (n:Int),
 CallIs (some (AV.int IntKind.i64 (Lib.compareBytes a t),[])) (AV.int IntKind.i64 n) [] ∧
  RetIs (AV.int IntKind.i64 n) [] (AV.int IntKind.i64 (Lib.compareBytes a t),[])):=by kernel_rfl
theorem w28z (m:Int) (o:Own) (t:List UInt8):(pureW PI (GI m) XR (tbl [(29,s29)]) (itbl []) (a28e 0 o t) [] 28 [.sl 0 [] o,.str t,.fn 29 []] (.tup [.int .i64 0,.bool false],[])) =
((∃ (_y:Unit),
    ValsAre [AV.sl ((0:Nat)) [] o,AV.str t,AV.fn ((29:Nat)) [],AV.int IntKind.i64 (0:Int),AV.int IntKind.i64 (0:Int),AV.int IntKind.i64 (0:Int)]
        [AV.sl ((0:Nat)) [] o,AV.str t,AV.fn ((29:Nat)) [],AV.int IntKind.i64 (0:Int),AV.int IntKind.i64 (0:Int),AV.int IntKind.i64 (0:Int)] ∧
      StIs { boxes:=[],live:=[] } { boxes:=[],live:=[] }∧True∧True) ∧
  ∀ (_x:Unit),
    True →
      (false = true→(0:Int)≤(1:Int)∧((0:Int)≤(0:Int)∧(0:Int) < (0:Int))∧False) ∧
        (false = false →
 (false = true→((0:Int)≤(0:Int)∧(0:Int) < (0:Int))∧False) ∧
 (false = false→RetIs (AV.tup [AV.int IntKind.i64 (0:Int),AV.bool false]) [] (AV.tup [AV.int IntKind.i64 (0:Int),AV.bool false],[])))):=by kernel_rfl
theorem w28e (m:Int) (o:Own) (t:List UInt8):(pureW PI (GI m) XR (tbl [(29,s29)]) (itbl []) (a28e 3 o t) [] 28 [.sl 3 [] o,.str t,.fn 29 []] (.tup [.int .i64 0,.bool false],[])) =
((∃ (_y:Unit),
    ValsAre [AV.sl ((3:Nat)) [] o,AV.str t,AV.fn ((29:Nat)) [],AV.int IntKind.i64 (0:Int),AV.int IntKind.i64 (0:Int),AV.int IntKind.i64 (0:Int)]
        [AV.sl ((3:Nat)) [] o,AV.str t,AV.fn ((29:Nat)) [],AV.int IntKind.i64 (0:Int),AV.int IntKind.i64 (0:Int),AV.int IntKind.i64 (0:Int)] ∧
      StIs { boxes:=[],live:=[] } { boxes:=[],live:=[] }∧True∧True) ∧
  ∀ (_x:Unit),
    True →
      (false = true →
 (0:Int)≤(1:Int) ∧
 ((0:Int)≤(0:Int)∧(0:Int) < (0:Int)) ∧
 ∃ (s:List UInt8),
 ∃ (n:Int),
 ∃ (es:List AV),
 none = some (AV.agg [AV.str s,AV.int IntKind.i64 n,AV.sl ((1:Nat)) es Own.no]) ∧
 ∃ (n:Int),
 CallIs (some (AV.int IntKind.i64 (Lib.compareBytes s t),[])) (AV.int IntKind.i64 n) [] ∧
 (decide (n < (0:Int)) = true →
 ∃ (_y:Unit),
 ValsAre
 [AV.sl ((3:Nat)) [] o,AV.str t,AV.fn ((29:Nat)) [],AV.int IntKind.i64 (0:Int),AV.int IntKind.i64 (1:Int),
 AV.int IntKind.i64 (0:Int)]
 [AV.sl ((3:Nat)) [] o,AV.str t,AV.fn ((29:Nat)) [],AV.int IntKind.i64 (0:Int),AV.int IntKind.i64 (0:Int),
 AV.int IntKind.i64 (0:Int)] ∧
 StIs { boxes:=[],live:=[] } { boxes:=[],live:=[] }∧True∧(0:Nat) < (0:Nat)) ∧
 (decide (n < (0:Int)) = false →
 ∃ (_y:Unit),
 ValsAre
 [AV.sl ((3:Nat)) [] o,AV.str t,AV.fn ((29:Nat)) [],AV.int IntKind.i64 (0:Int),AV.int IntKind.i64 (0:Int),
 AV.int IntKind.i64 (0:Int)]
 [AV.sl ((3:Nat)) [] o,AV.str t,AV.fn ((29:Nat)) [],AV.int IntKind.i64 (0:Int),AV.int IntKind.i64 (0:Int),
 AV.int IntKind.i64 (0:Int)] ∧
 StIs { boxes:=[],live:=[] } { boxes:=[],live:=[] }∧True∧(0:Nat) < (0:Nat))) ∧
        (false = false →
 (false = true →
 ((0:Int)≤(0:Int)∧(0:Int) < (0:Int)) ∧
 ∃ (s:List UInt8),
 ∃ (n:Int),
 ∃ (es:List AV),
 none = some (AV.agg [AV.str s,AV.int IntKind.i64 n,AV.sl ((1:Nat)) es Own.no]) ∧
 ∃ (n:Int),
 CallIs (some (AV.int IntKind.i64 (Lib.compareBytes s t),[])) (AV.int IntKind.i64 n) [] ∧
 ((n == (0:Int)) = true →
 RetIs (AV.tup [AV.int IntKind.i64 (0:Int),AV.bool true]) [] (AV.tup [AV.int IntKind.i64 (0:Int),AV.bool false],[])) ∧
 ((n == (0:Int)) = false →
 RetIs (AV.tup [AV.int IntKind.i64 (0:Int),AV.bool false]) [] (AV.tup [AV.int IntKind.i64 (0:Int),AV.bool false],[]))) ∧
 (false = false→RetIs (AV.tup [AV.int IntKind.i64 (0:Int),AV.bool false]) [] (AV.tup [AV.int IntKind.i64 (0:Int),AV.bool false],[])))):=by kernel_rfl
theorem w28 (m:Int) (r:List BxI) (t:List UInt8):(pureW PI (GI m) XR (tbl [(29,s29)]) (itbl []) (a28 r t .no) [] 28 [.sl 3 (bxsL r) .no,.str t,.fn 29 []] (.tup [.int .i64 (lowB r t),.bool (oldB r t)],[])) =
((∃ (y:Int × Int),
    ValsAre
        [AV.sl ((3:Nat)) (bxsL r) Own.no,AV.str t,AV.fn ((29:Nat)) [],AV.int IntKind.i64 (↑(bxsL r).length:Int),AV.int IntKind.i64 (0:Int),
 AV.int IntKind.i64 (↑(bxsL r).length:Int)]
        [AV.sl ((3:Nat)) (bxsL r) Own.no,AV.str t,AV.fn ((29:Nat)) [],AV.int IntKind.i64 (↑r.length:Int),AV.int IntKind.i64 y.fst,
 AV.int IntKind.i64 y.snd] ∧
      StIs { boxes:=[],live:=[] } { boxes:=[],live:=[] } ∧
        (∃ (i:Nat),∃ (j:Nat),y = ((↑i:Int),(↑j:Int))∧i≤lowB r t∧lowB r t≤j∧j≤r.length)∧True) ∧
  ∀ (x:Int × Int),
    (∃ (i:Nat),∃ (j:Nat),x = ((↑i:Int),(↑j:Int))∧i≤lowB r t∧lowB r t≤j∧j≤r.length) →
      (decide (x.fst < x.snd) = true →
 (0:Int)≤(1:Int) ∧
 ((0:Int)≤IntKind.i64.wrap ((IntKind.u64.wrap (IntKind.i64.wrap (x.fst + x.snd))).fdiv (2:Int)) ∧
 IntKind.i64.wrap ((IntKind.u64.wrap (IntKind.i64.wrap (x.fst + x.snd))).fdiv (2:Int)) < (↑(bxsL r).length:Int)) ∧
 ∃ (s:List UInt8),
 ∃ (n:Int),
 ∃ (es:List AV),
 takeAt PI ((75:Nat)) (bxsL r) (IntKind.i64.wrap ((IntKind.u64.wrap (IntKind.i64.wrap (x.fst + x.snd))).fdiv (2:Int))).toNat
 ((0:Nat)) =
 some (AV.agg [AV.str s,AV.int IntKind.i64 n,AV.sl ((1:Nat)) es Own.no]) ∧
 ∃ (n:Int),
 CallIs (some (AV.int IntKind.i64 (Lib.compareBytes s t),[])) (AV.int IntKind.i64 n) [] ∧
 (decide (n < (0:Int)) = true →
 ∃ (y:Int × Int),
 ValsAre
 [AV.sl ((3:Nat)) (bxsL r) Own.no,AV.str t,AV.fn ((29:Nat)) [],AV.int IntKind.i64 (↑r.length:Int),
 AV.int IntKind.i64
 (IntKind.i64.wrap
 (IntKind.i64.wrap ((IntKind.u64.wrap (IntKind.i64.wrap (x.fst + x.snd))).fdiv (2:Int)) + (1:Int))),
 AV.int IntKind.i64 x.snd]
 [AV.sl ((3:Nat)) (bxsL r) Own.no,AV.str t,AV.fn ((29:Nat)) [],AV.int IntKind.i64 (↑r.length:Int),
 AV.int IntKind.i64 y.fst,AV.int IntKind.i64 y.snd] ∧
 StIs { boxes:=[],live:=[] } { boxes:=[],live:=[] } ∧
 (∃ (i:Nat),∃ (j:Nat),y = ((↑i:Int),(↑j:Int))∧i≤lowB r t∧lowB r t≤j∧j≤r.length) ∧
 (y.snd - y.fst).toNat < (x.snd - x.fst).toNat) ∧
 (decide (n < (0:Int)) = false →
 ∃ (y:Int × Int),
 ValsAre
 [AV.sl ((3:Nat)) (bxsL r) Own.no,AV.str t,AV.fn ((29:Nat)) [],AV.int IntKind.i64 (↑r.length:Int),
 AV.int IntKind.i64 x.fst,
 AV.int IntKind.i64 (IntKind.i64.wrap ((IntKind.u64.wrap (IntKind.i64.wrap (x.fst + x.snd))).fdiv (2:Int)))]
 [AV.sl ((3:Nat)) (bxsL r) Own.no,AV.str t,AV.fn ((29:Nat)) [],AV.int IntKind.i64 (↑r.length:Int),
 AV.int IntKind.i64 y.fst,AV.int IntKind.i64 y.snd] ∧
 StIs { boxes:=[],live:=[] } { boxes:=[],live:=[] } ∧
 (∃ (i:Nat),∃ (j:Nat),y = ((↑i:Int),(↑j:Int))∧i≤lowB r t∧lowB r t≤j∧j≤r.length) ∧
 (y.snd - y.fst).toNat < (x.snd - x.fst).toNat)) ∧
        (decide (x.fst < x.snd) = false →
 (decide (x.fst < (↑r.length:Int)) = true →
 ((0:Int)≤x.fst∧x.fst < (↑(bxsL r).length:Int)) ∧
 ∃ (s:List UInt8),
 ∃ (n:Int),
 ∃ (es:List AV),
 takeAt PI ((75:Nat)) (bxsL r) x.fst.toNat ((0:Nat)) = some (AV.agg [AV.str s,AV.int IntKind.i64 n,AV.sl ((1:Nat)) es Own.no]) ∧
 ∃ (n:Int),
 CallIs (some (AV.int IntKind.i64 (Lib.compareBytes s t),[])) (AV.int IntKind.i64 n) [] ∧
 ((n == (0:Int)) = true →
 RetIs (AV.tup [AV.int IntKind.i64 x.fst,AV.bool true]) []
 (AV.tup [AV.int IntKind.i64 (↑(lowB r t):Int),AV.bool (oldB r t)],[])) ∧
 ((n == (0:Int)) = false →
 RetIs (AV.tup [AV.int IntKind.i64 x.fst,AV.bool false]) []
 (AV.tup [AV.int IntKind.i64 (↑(lowB r t):Int),AV.bool (oldB r t)],[]))) ∧
 (decide (x.fst < (↑r.length:Int)) = false →
 RetIs (AV.tup [AV.int IntKind.i64 x.fst,AV.bool false]) [] (AV.tup [AV.int IntKind.i64 (↑(lowB r t):Int),AV.bool (oldB r t)],[])))):=by kernel_rfl
end Go.Abs
namespace Go.Abs
open Go.Proofs Go.RowKit Go.Sort
theorem cmpB_lt:∀ (a b:List UInt8),Lib.compareBytes a b < 0 ↔ Op.bytesLess a b = true
 | [],[]=>by simp [Lib.compareBytes,Op.bytesLess]
 | [],_ :: _=>by simp [Lib.compareBytes,Op.bytesLess]
 | _ :: _,[]=>by simp [Lib.compareBytes,Op.bytesLess]
 | a :: l,b :: bs=>by
  have ih:=cmpB_lt l bs
  simp only [Lib.compareBytes,Op.bytesLess]
  by_cases h:a < b
  ·simp [h]
  ·by_cases h2:b < a
   ·have hne:¬ a = b:=fun e=>by subst e; exact absurd h2 (by simp)
    simp [h,h2,hne]
   ·have:a = b:=by
     have h3:¬ a.toNat < b.toNat:=fun h'=>h (UInt8.lt_iff_toNat_lt.2 h')
     have h4:¬ b.toNat < a.toNat:=fun h'=>h2 (UInt8.lt_iff_toNat_lt.2 h')
     exact UInt8.toNat_inj.1 (by omega)
    subst this
    simp [ih]
theorem cmpB_eq:∀ (a b:List UInt8),Lib.compareBytes a b = 0 ↔ a = b
 | [],[]=>by simp [Lib.compareBytes]
 | [],_ :: _=>by simp [Lib.compareBytes]
 | _ :: _,[]=>by simp [Lib.compareBytes]
 | a :: l,b :: bs=>by
  have ih:=cmpB_eq l bs
  simp only [Lib.compareBytes]
  by_cases h:a < b
  ·simp only [h,if_true]
   constructor
   ·intro h'; cases h'
   ·intro h'
    injection h' with h1 h2; subst h1
    exact absurd h (by simp)
  ·by_cases h2:b < a
   ·simp only [h,h2,if_true,if_false]
    constructor
    ·intro h'; cases h'
    ·intro h'
     injection h' with h1 h3; subst h1
     exact absurd h2 (by simp)
   ·have:a = b:=by
     have h3:¬ a.toNat < b.toNat:=fun h'=>h (UInt8.lt_iff_toNat_lt.2 h')
     have h4:¬ b.toNat < a.toNat:=fun h'=>h2 (UInt8.lt_iff_toNat_lt.2 h')
     exact UInt8.toNat_inj.1 (by omega)
    simp [ih,this]
theorem low_le (r:List BxI) (s:List UInt8):lowB r s≤r.length:=(List.takeWhile_prefix _).length_le
theorem low_mono {r:List BxI} {s:List UInt8} (hs:srcLt r = true) {i j:Nat} (hij:i≤j) (hj:j < r.length) (h:Op.bytesLess (r[j]).src s = true):Op.bytesLess (r[i]'(by omega)).src s = true:=by
 rcases Nat.lt_or_eq_of_le hij with hlt | rfl
 ·have:=List.pairwise_iff_getElem.1 (of_decide_eq_true hs) i j (by omega) hj hlt
  rw [bytesLess_eq,decide_eq_true_eq] at h ⊢
  exact List.lt_trans this h
 ·exact h
theorem tw_len_le {α:Type} {p:α→Bool}:∀ {l:List α} {k:Nat},(∀ i (hi:i < l.length),i < k→p l[i] = true)→k≤l.length→k≤(l.takeWhile p).length
 | [],k,_,hk=>by simpa using hk
 | x :: l,0,_,_=>Nat.zero_le _
 | x :: l,k + 1,h,hk=>by
  have h0:p x = true:=h 0 (by simp) (by omega)
  rw [List.takeWhile_cons_of_pos h0]
  have:=tw_len_le (l:=l) (k:=k) (fun i hi hk'=>h (i + 1) (by simpa using hi) (by omega)) (by simpa using hk)
  simp; omega
theorem tw_at {α:Type} {p:α→Bool}:∀ {l:List α} {k:Nat} (_h:k < (l.takeWhile p).length),∃ hk:k < l.length,p l[k] = true
 | [],k,h=>by simp at h
 | x :: l,k,h=>by
  by_cases h0:p x = true
  ·rw [List.takeWhile_cons_of_pos h0] at h
   match k,h with
   | 0,_=>exact ⟨by simp,h0⟩
   | k + 1,h =>
    obtain ⟨hk,hp⟩:=tw_at (l:=l) (k:=k) (by simpa using h)
    exact ⟨by simpa using hk,by simpa using hp⟩
  ·rw [List.takeWhile_cons_of_neg h0] at h; simp at h
theorem low_iff {r:List BxI} {s:List UInt8} (hs:srcLt r = true) {j:Nat} (hj:j < r.length):Op.bytesLess (r[j]).src s = true ↔ j < lowB r s:=by
 constructor
 ·intro h
  have:j + 1≤lowB r s:=tw_len_le (p:=fun b:BxI=>Op.bytesLess b.src s) (fun i hi hij=>low_mono hs (by omega) hj h) (by omega)
  omega
 ·intro h
  obtain ⟨_,h⟩:=tw_at h
  exact h
theorem agg75:aggA PI 75 = some true:=by kernel_rfl
theorem size75:sizeA PI 75 = some 3:=by kernel_rfl
theorem take_bx {r:List BxI} {i:Nat} (h:i < r.length):takeAt PI 75 (bxsL r) i 0 = some (.agg [.str r[i].src,.int .i64 r[i].next,.sl 1 (intsA r[i].ahead) .no]):=by
 simp only [takeAt,List.getElem?_map,List.getElem?_eq_getElem h,Option.map_some,takeA,agg75,size75]
 rfl
theorem unL_map {α:Type} {f:AV→Option α} {g:α→AV} (h:∀ x,f (g x) = some x):∀ l:List α,unL f (l.map g) = some l
 | []=>rfl
 | x :: l=>by simp [unL,h x,unL_map h l]
theorem unIs_ok (l:List Int):unL unIn (intsA l) = some l:=unL_map (g:=AV.int .i64) (fun _=>rfl) l
theorem unB_ok (b:BxI):unB (bxA b) = some b:=by
 simp only [bxA,unB,if_true,unIs_ok,Option.map_some]
theorem unBs_ok (r:List BxI):unL unB (bxsL r) = some r:=unL_map unB_ok r
theorem p29 (m n:Int) (a t:List UInt8) (es:List AV):PureOk PI (GI m) XR (tbl [(30,s30)]) (itbl []) nAn [] 29 [.agg [.str a,.int .i64 n,.sl 1 es .no],.str t] (.int .i64 (Lib.compareBytes a t),[]):=by
 constructor
 rw [w29 m n a t es]
 exact ⟨_,⟨rfl⟩,⟨rfl⟩⟩
theorem c29 (b:BxI) (t:List UInt8):s29 [bxA b,.str t] = some (.int .i64 (Lib.compareBytes b.src t),[]):=rfl
theorem p28 (m:Int) (r:List BxI) (t:List UInt8) (hs:srcLt r = true) (hl:r.length≤2000000):PureOk PI (GI m) XR (tbl [(29,s29)]) (itbl []) (a28 r t .no) [] 28 [.sl 3 (bxsL r) .no,.str t,.fn 29 []] (.tup [.int .i64 (lowB r t),.bool (oldB r t)],[]):=by
 constructor
 rw [w28]
 simp only [callIs_iff,valsAre_iff,stIs_iff,retIs_iff,List.length_map,Option.some.injEq,Prod.mk.injEq,AV.bool.injEq,AV.int.injEq,AV.tup.injEq,List.cons.injEq,and_true,true_and,decide_eq_true_eq,decide_eq_false_iff_not]
 have hle:=low_le r t
 have hold:oldB r t = (r[lowB r t]?).any fun b=>b.src == t:=rfl
 have hcall:∀ (i:Nat) (h:i < r.length),∃ (s:List UInt8) (n:Int) (es:List AV),takeAt PI 75 (bxsL r) i 0 = some (.agg [.str s,.int .i64 n,.sl 1 es .no])∧s = r[i].src∧tbl [(29,s29)] 29 [.agg [.str s,.int .i64 n,.sl 1 es .no],.str t] = some (.int .i64 (Lib.compareBytes r[i].src t),[]):=fun i h =>
  ⟨_,_,_,take_bx h,rfl,c29 r[i] t⟩
 refine ⟨⟨(0,(r.length:Int)),⟨rfl,rfl⟩,⟨0,r.length,rfl,Nat.zero_le _,hle,Nat.le_refl _⟩⟩,?_⟩
 rintro x ⟨i,j,rfl,h1,h2,h3⟩
 simp only
 have hw:∀ a:Nat,a < 4000000→IntKind.i64.wrap (a:Int) = a:=fun a ha=>wrap64_in (by omega) (by omega)
 refine ⟨fun hij=>?_,fun hij=>⟨fun hi=>?_,fun hi=>?_⟩⟩
 ·have e0:((i:Int) + j) = ((i + j:Nat):Int):=by omega
  have e1:IntKind.i64.wrap ((IntKind.u64.wrap (IntKind.i64.wrap ((i:Int) + j))).fdiv 2) = (((i + j) / 2:Nat):Int):=by
   rw [e0,hw _ (by omega),IntKind.wrap_u64,Int.emod_eq_of_lt (by omega) (by omega),Int.fdiv_eq_ediv_of_nonneg _ (by omega),show (((i + j:Nat):Int) / 2) = (((i + j) / 2:Nat):Int) by omega,hw _ (by omega)]
  rw [e1]
  have hm:(i + j) / 2 < r.length:=by omega
  obtain ⟨s,n,es,k1,rfl,k3⟩:=hcall _ hm
  refine ⟨by omega,⟨by omega,by omega⟩,_,n,es,by rw [Int.toNat_natCast]; exact k1,_,rfl,fun hn=>?_,fun hn=>?_⟩
  ·have:=(low_iff hs hm).1 ((cmpB_lt _ _).1 hn)
   refine ⟨((((i + j) / 2 + 1:Nat):Int),(j:Int)),⟨?_,rfl⟩,⟨_,_,rfl,by omega,h2,h3⟩,?_⟩
   ·rw [show (((i + j) / 2:Nat):Int) + 1 = (((i + j) / 2 + 1:Nat):Int) by omega,hw _ (by omega)]
   ·simp only; omega
  ·have hnl:¬ (i + j) / 2 < lowB r t:=fun h=>hn ((cmpB_lt _ _).2 ((low_iff hs hm).2 h))
   refine ⟨((i:Int),(((i + j) / 2:Nat):Int)),⟨rfl,rfl⟩,⟨_,_,rfl,h1,by omega,by omega⟩,?_⟩
   simp only; omega
 ·have hil:i < r.length:=by omega
  have hie:i = lowB r t:=by omega
  obtain ⟨s,n,es,k1,rfl,k3⟩:=hcall _ hil
  have hob:oldB r t = (r[i].src == t):=by rw [hold,← hie,List.getElem?_eq_getElem hil]; rfl
  refine ⟨⟨by omega,by omega⟩,_,n,es,by rw [Int.toNat_natCast]; exact k1,_,rfl,fun hn=>?_,fun hn=>?_⟩
  ·have h0:r[i].src = t:=(cmpB_eq _ _).1 (by simpa using hn)
   exact ⟨by omega,by rw [hob,h0]; simp⟩
  ·have h0:r[i].src ≠ t:=fun e=>by rw [(cmpB_eq _ _).2 e] at hn; cases hn
   exact ⟨by omega,by rw [hob]; simpa using h0⟩
 ·have hie:r.length = lowB r t:=by omega
  refine ⟨by omega,?_⟩
  rw [hold,List.getElem?_eq_none (by omega)]; rfl
theorem p28e (m:Int) (o:Own) (t:List UInt8):PureOk PI (GI m) XR (tbl [(29,s29)]) (itbl []) (a28e 3 o t) [] 28 [.sl 3 [] o,.str t,.fn 29 []] (.tup [.int .i64 0,.bool false],[]):=by
 constructor
 rw [w28e]
 exact ⟨⟨(),⟨rfl⟩,⟨rfl⟩,trivial,trivial⟩,fun _ _=>⟨fun h=>(by cases h),fun _=>⟨fun h=>(by cases h),fun _=>⟨rfl⟩⟩⟩⟩
theorem p28z (m:Int) (o:Own) (t:List UInt8):PureOk PI (GI m) XR (tbl [(29,s29)]) (itbl []) (a28e 0 o t) [] 28 [.sl 0 [] o,.str t,.fn 29 []] (.tup [.int .i64 0,.bool false],[]):=by
 constructor
 rw [w28z]
 exact ⟨⟨(),⟨rfl⟩,⟨rfl⟩,trivial,trivial⟩,fun _ _=>⟨fun h=>(by cases h),fun _=>⟨fun h=>(by cases h),fun _=>⟨rfl⟩⟩⟩⟩
theorem unL_inv {α:Type} {f:AV→Option α} {g:α→AV} (hf:∀ a x,f a = some x→a = g x):∀ {es:List AV} {l:List α},unL f es = some l→es = l.map g
 | [],l,h=>by simp [unL] at h; subst h; rfl
 | a :: es,l,h=>by
  simp only [unL] at h
  split at h
  ·rename_i x xs h1 h2
   injection h with h; subst h
   rw [hf a x h1,unL_inv hf h2]; rfl
  ·cases h
theorem unIn_inv (a:AV) (x:Int) (h:unIn a = some x):a = .int .i64 x:=by
 unfold unIn at h
 split at h
 ·injection h with h; subst h; rfl
 ·cases h
theorem unB_inv (a:AV) (b:BxI) (h:unB a = some b):a = bxA b:=by
 unfold unB at h
 split at h
 ·split at h
  case isFalse=>cases h
  rename_i hz
  subst hz
  rw [Option.map_eq_some_iff] at h
  obtain ⟨l,h1,rfl⟩:=h
  rw [unL_inv unIn_inv h1]; rfl
 ·cases h
theorem unBs_inv {es:List AV} {r:List BxI} (h:unL unB es = some r):es = bxsL r:=unL_inv unB_inv h
theorem o29 (m:Int):SpecOk PI (GI m) 29 s29:=spec_of (X:=XR) (m:=[]) mixedI (tbl_cons (o30 m) tbl_nil) itbl_nil fun args r h=>by
 unfold s29 at h
 split at h
 case h_2=>cases h
 split at h
 case isFalse=>cases h
 rename_i hz
 subst hz
 injection h with h; subst h
 exact ⟨_,p29 m _ _ _ _⟩
end Go.Abs
namespace Go.Abs
open Go.Proofs
def s33n:ISpec:=sCloneN 3 48
def s28f:Spec:=fun args=>match args with
 | [.sl sz es .no,.str t,.fn 29 []]=>if sz = 3 then (match unL unB es with
  | some r=>if srcLt r∧r.length≤2000000∧oldB r t = true then some (.tup [.int .i64 (lowB r t),.bool true],[]) else none
  | none=>none) else none
 | _=>none
def s28n:Spec:=fun args=>match args with
 | [.sl sz es .no,.str t,.fn 29 []]=>if sz = 3 then (match unL unB es with
  | some r=>if srcLt r∧r.length≤2000000∧oldB r t = false then some (.tup [.int .i64 (lowB r t),.bool false],[]) else none
  | none=>none) else none
 | _=>none
def s28z:Spec:=fun args=>match args with
 | [.sl sz [] _,.str _,.fn 29 []]=>if sz = 0∨sz = 3 then some (.tup [.int .i64 0,.bool false],[]) else none
 | _=>none
def XF:Shapes:=fun f=>match f with
 | 27 | 35=>some shB
 | 28=>some (.tup [.one (.int .i64),.one (.is (.bool true))],none)
 | _=>none
def XN:Shapes:=fun f=>match f with
 | 27 | 35=>some shB
 | 28=>some (.tup [.one (.int .i64),.one (.is (.bool false))],none)
 | _=>none
abbrev pkC (p:PkQ) (kind ref ev:Int) (tab key:List UInt8) (fs:AV):List AV:=[.str p.src,.bool p.ack,.int .i64 p.next,.str p.fsrc,.int .i64 p.seq,.int .i64 kind,.int .i64 ref,.str tab,.str key,.int .i64 ev,fs]
abbrev mpL (l:List Int):List AV:=l.map fun x=>.tup [.int .i64 x,.bool true]
structure St21 where
 l:List Int
 x:Int
 T:List Int
abbrev S10 (rc:AV) (pk:List AV) (bx:List AV) (k:Int) (l:List AV):St:=⟨[some [rc],some pk,some [.sl 0 [] .nil],some zeroPC,some bx,some (mapC 100 k l)],[]⟩
def I21 (S:List Int) (x0:Int) (n:St21):Prop:=n.l.Nodup∧(∀ y,y ∈ n.l ↔ y ∈ n.T)∧n.T.Pairwise (· < ·)∧(∀ y ∈ n.T,n.x≤y)∧runS n.T n.x = runS S x0∧-4611686018427387904≤n.x∧n.x + n.T.length≤4611686018427387904
def a10 (rc:AV) (pk:List AV) (n:Int) (i:Nat) (found:Bool) (src:List UInt8) (x0:Int) (sl:AV) (ahead:List Int):Anns:=⟨fun k=>match k with
 | 14=>some { α:=Nat,slots:=[2,3,4,6,8,9,10,11,12,84,85,86],nb:=6,vals:=fun k=>[.ptr 0 0,.ptr 1 0,.ptr 2 0,.ptr 3 0,.int .i64 n,.int .i64 i,.bool found,.ptr 4 0,.mp 5,sl,.int .i64 ahead.length,.int .i64 k],sS:=fun k=>S10 rc pk [.str src,.int .i64 x0,sl] k (mpL (ahead.take k)),I:=fun k=>k≤ahead.length,μ:=fun k=>ahead.length - k }
 | 21=>some { α:=St21,slots:=[2,3,4,5,6,8,9,10,11,12],nb:=6,vals:=fun _=>[.ptr 0 0,.ptr 1 0,.ptr 2 0,.bool true,.ptr 3 0,.int .i64 n,.int .i64 i,.bool found,.ptr 4 0,.mp 5],sS:=fun m=>S10 rc pk [.str src,.int .i64 m.x,sl] (ahead.length + 1) (mpL m.l),I:=I21 (insI n ahead) x0,μ:=fun m=>m.T.length }
 | _=>none,nA⟩
def a10f (p:PkQ) (kind ref ev:Int) (tab key:List UInt8) (fs:AV) (r:List BxI) (b:BxI):Anns:=a10 (.sl 3 (bxsL r) .no) (pkC p kind ref ev tab key fs) p.seq (lowB r p.src) true b.src b.next (.sl 1 (intsA b.ahead) .no) b.ahead
def a10n (p:PkQ) (kind ref ev:Int) (tab key:List UInt8) (fs:AV) (rc:AV) (i:Nat):Anns:=a10 rc (pkC p kind ref ev tab key fs) p.seq i false p.src 1 (.sl 0 [] .nil) []
end Go.Abs
