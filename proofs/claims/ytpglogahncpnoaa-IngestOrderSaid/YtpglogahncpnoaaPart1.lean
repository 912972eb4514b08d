/- Own texts, part 1. -/
import Derived.RowKit
import Derived.Below
import Derived.Laws.OwnMore
import Derived.Maps.OwnSet
import Derived.StringKeys
import Derived.DeepKeys4
import Derived.Deep.AppendSrc
import Derived.Laws.StructEq
import Derived.Laws.IdiomStrings
import Derived.Laws.MakeOwn

namespace Go.Abs
open Go.RowKit
inductive Own where
 | full
 | no
 | nil
 | tok (t:Nat)
def Own.weak:Own→Own
 | .nil=>.full
 | o=>o
inductive AV where
 | lit (v:Value)
 | bool (b:Bool)
 | int (k:IntKind) (n:Int)
 | str (l:List UInt8)
 | agg (cs:List AV)
 | tup (vs:List AV)
 | sl (sz:Nat) (es:List AV) (o:Own)
 | elt (sz:Nat) (es:List AV) (i j:Nat)
 | ptr (b off:Nat)
 | fn (f:FuncId) (cap:List AV)
 | mp (b:Nat)
 | ms (b sz n:Nat)
 | mel (b sz i j:Nat)
 | mst (b sz i n:Nat)
 | opq
 | ifc
 | junk
def AV.cells:AV→List AV
 | .agg cs=>cs
 | v=>[v]
def AV.closed:AV→Bool
 | .ptr .. | .elt .. | .mp _ | .ms .. | .mel .. | .mst .. | .sl _ _ (.tok _) | .agg _ | .tup _ | .junk=>false
 | .fn _ cap=>cap.isEmpty
 | _=>true
def AV.closed1:AV→Bool
 | .agg cs=>cs.all AV.closed
 | v=>v.closed
structure Env where
 I:Nat→Nat→Prop
 B:Nat→Option Nat
 K:Nat→Nat→Value→Prop
def OwnOk (K:Nat→Nat→Value→Prop):Own→Nat→Nat→Value→Prop
 | .full,n,cap,_=>cap = n
 | .no,_,_,_=>True
 | .nil,_,_,v=>v = .slice none 0 0
 | .tok t,n,_,v=>K t n v
def litOk:Value→Bool
 | .pointer none | .nilFunc | .nilIface | .map none | .chan none | .float _ _=>true
 | _=>false
def rowsOf (w:World) (b:Nat):Nat:=
 match w.heap[b]? with
 | some (.cells arr _ _)=>arr.size
 | _=>0
theorem rowsOf_block {w w':World} {b:Nat} (h:w'.heap[b]? = w.heap[b]?):rowsOf w' b = rowsOf w b:=by unfold rowsOf; rw [h]
inductive Rep (E:Env) (w:World):AV→Value→Prop
 | lit (v:Value) (h:litOk v = true):Rep E w (.lit v) v
 | bool (b:Bool):Rep E w (.bool b) (.bool b)
 | int (k:IntKind) (n:Int):Rep E w (.int k n) (.int k n)
 | str (l:List UInt8) (s:ByteArray) (h:s.data.toList = l):Rep E w (.str l) (.string s)
 | agg (cs:List AV) (vs:Array Value) (hn:vs.size = cs.length) (h1:∀ (i:Nat) (v:Value),vs[i]? = some v→v.oneCell' = true) (h:∀ (i:Nat) (c:AV) (v:Value),cs[i]? = some c→vs[i]? = some v→Rep E w c v):Rep E w (.agg cs) (.agg vs)
 | tup (cs:List AV) (vs:Array Value) (hn:vs.size = cs.length) (h:∀ (i:Nat) (c:AV) (v:Value),cs[i]? = some c→vs[i]? = some v→Rep E w c v):Rep E w (.tup cs) (.tuple vs)
 | sl (sz:Nat) (es:List AV) (o:Own) (A:Option Addr) (cap:Nat) (u:Nat→Nat→Value) (hcap:es.length≤cap) (hmax:cap≤maxLen)
   (hA:es = []∨∃ b off,A = some ⟨b,off,none⟩∧∀ (i:Nat) (e:AV) (j:Nat) (c:AV),es[i]? = some e→e.cells[j]? = some c→E.I b (off + i * sz + j)∧w.cell? ⟨b,off + i * sz + j,none⟩ = some (u i j))
   (hsz:∀ e ∈ es,e.cells.length = sz) (hcl:∀ e ∈ es,e.closed1 = true)
   (ho:OwnOk E.K o es.length cap (.slice A es.length cap))
   (h:∀ (i:Nat) (e:AV) (j:Nat) (c:AV),es[i]? = some e→e.cells[j]? = some c→Rep E w c (u i j)) (h1:∀ i j,(u i j).oneCell' = true):Rep E w (.sl sz es o) (.slice A es.length cap)
 | elt (sz:Nat) (es:List AV) (i0 j0:Nat) (b off:Nat) (u:Nat→Nat→Value) (hcl:∀ e ∈ es,e.closed1 = true)
   (hA:∀ (i:Nat) (e:AV) (j:Nat) (c:AV),es[i]? = some e→e.cells[j]? = some c→E.I b (off + i * sz + j)∧w.cell? ⟨b,off + i * sz + j,none⟩ = some (u i j))
   (h:∀ (i:Nat) (e:AV) (j:Nat) (c:AV),es[i]? = some e→e.cells[j]? = some c→Rep E w c (u i j)) (h1:∀ i j,(u i j).oneCell' = true):Rep E w (.elt sz es i0 j0) (.pointer (some ⟨b,off + i0 * sz + j0,none⟩))
 | ptr (b off blk:Nat) (h:E.B b = some blk):Rep E w (.ptr b off) (.pointer (some ⟨blk,off,none⟩))
 | fn (f:FuncId) (cs:List AV) (vs:Array Value) (hn:vs.size = cs.length) (h:∀ (i:Nat) (c:AV) (v:Value),cs[i]? = some c→vs[i]? = some v→Rep E w c v):Rep E w (.fn f cs) (.func (.func f) #[] vs)
 | mp (b blk:Nat) (h:E.B b = some blk):Rep E w (.mp b) (.map (some blk))
 | ms (b sz n blk cap:Nat) (h:E.B b = some blk) (h1:n≤cap) (h2:cap≤maxLen) (h3:cap * sz≤rowsOf w blk):Rep E w (.ms b sz n) (.slice (some ⟨blk,0,none⟩) n cap)
 | mel (b sz i j blk:Nat) (h:E.B b = some blk):Rep E w (.mel b sz i j) (.pointer (some ⟨blk,i * sz + j,none⟩))
 | mst (b sz i n blk cap:Nat) (A:Option Addr) (h:E.B b = some blk) (hA:n = 0∨A = some ⟨blk,i * sz,none⟩):Rep E w (.mst b sz i n) (.slice A n cap)
 | opq (v:Value) (h:v.oneCell' = true):Rep E w .opq v
 | ifc (t:TypeId) (v:Value):Rep E w .ifc (.iface t v)
 | junk (v:Value):Rep E w .junk v
structure Env.Le (E E':Env) (w w':World):Prop where
 I:∀ b o,E.I b o→E'.I b o∧w'.cell? ⟨b,o,none⟩ = w.cell? ⟨b,o,none⟩
 B:∀ b x,E.B b = some x→E'.B b = some x
 K:∀ t n v,E.K t n v→E'.K t n v
 Z:∀ b x,E.B b = some x→rowsOf w' x = rowsOf w x
theorem Env.Le.refl (E:Env) (w:World):Env.Le E E w w:=⟨fun _ _ h=>⟨h,rfl⟩,fun _ _ h=>h,fun _ _ _ h=>h,fun _ _ _=>rfl⟩
theorem Env.Le.trans {E E' E'':Env} {w w' w'':World} (h:Env.Le E E' w w') (k:Env.Le E' E'' w' w''):Env.Le E E'' w w'':=
 ⟨fun b o hi=>⟨(k.I b o (h.I b o hi).1).1,(k.I b o (h.I b o hi).1).2.trans (h.I b o hi).2⟩,fun b x hb=>k.B b x (h.B b x hb),fun t n v hk=>k.K t n v (h.K t n v hk),fun b x hb=>(k.Z b x (h.B b x hb)).trans (h.Z b x hb)⟩
theorem Rep.le {E E':Env} {w w':World} (hl:Env.Le E E' w w') {a:AV} {v:Value} (h:Rep E w a v):Rep E' w' a v:=by
 induction h with
 | lit v h=>exact .lit v h
 | bool b=>exact .bool b
 | int k n=>exact .int k n
 | str l s h=>exact .str l s h
 | agg cs vs hn h1 _ ih=>exact .agg cs vs hn h1 ih
 | tup cs vs hn _ ih=>exact .tup cs vs hn ih
 | sl sz es o A cap u hcap hmax hA hsz hcl ho _ h1 ih =>
  refine .sl sz es o A cap u hcap hmax ?_ hsz hcl ?_ ih h1
  ·rcases hA with hA | ⟨b,off,hA,hc⟩
   ·exact .inl hA
   ·exact .inr ⟨b,off,hA,fun i e j c hi hj=>⟨(hl.I _ _ (hc i e j c hi hj).1).1,(hl.I _ _ (hc i e j c hi hj).1).2.trans (hc i e j c hi hj).2⟩⟩
  ·cases o with
   | full=>exact ho
   | no=>trivial
   | nil=>exact ho
   | tok t=>exact hl.K _ _ _ ho
 | elt sz es i0 j0 b off u hcl hA _ h1 ih =>
  exact .elt sz es i0 j0 b off u hcl (fun i e j c hi hj=>⟨(hl.I _ _ (hA i e j c hi hj).1).1,(hl.I _ _ (hA i e j c hi hj).1).2.trans (hA i e j c hi hj).2⟩) ih h1
 | ptr b off blk h=>exact .ptr b off blk (hl.B _ _ h)
 | fn f cs vs hn _ ih=>exact .fn f cs vs hn ih
 | mp b blk h=>exact .mp b blk (hl.B _ _ h)
 | ms b sz n blk cap h h1 h2 h3=>exact .ms b sz n blk cap (hl.B _ _ h) h1 h2 (by rw [hl.Z _ _ h]; exact h3)
 | mel b sz i j blk h=>exact .mel b sz i j blk (hl.B _ _ h)
 | mst b sz i n blk cap A h hA=>exact .mst b sz i n blk cap A (hl.B _ _ h) hA
 | opq v h=>exact .opq v h
 | ifc t v=>exact .ifc t v
 | junk v=>exact .junk v
theorem closed_closed1 {a:AV} (h:a.closed = true):a.closed1 = true:=by
 cases a <;> simp_all [AV.closed,AV.closed1]
theorem closed1_cells {a c:AV} {j:Nat} (h:a.closed1 = true) (hj:a.cells[j]? = some c):c.closed = true:=by
 by_cases ha:∃ cs,a = .agg cs
 ·obtain ⟨cs,rfl⟩:=ha
  simp only [AV.closed1,List.all_eq_true] at h
  exact h c (List.mem_of_getElem? hj)
 ·have e1:a.cells = [a]:=by cases a <;> simp_all [AV.cells]
  have e2:a.closed = true:=by cases a <;> simp_all [AV.closed1,AV.closed]
  rw [e1] at hj
  match j,hj with
  | 0,hj=>simp at hj; subst hj; exact e2
  | j + 1,hj=>simp at hj
theorem Rep.rebase {E:Env} {w:World} {a:AV} {v:Value} (h:Rep E w a v) (hc:a.closed1 = true) (B:Nat→Option Nat) (K:Nat→Nat→Value→Prop):Rep ⟨E.I,B,K⟩ w a v:=by
 induction h with
 | lit v h=>exact .lit v h
 | bool b=>exact .bool b
 | int k n=>exact .int k n
 | str l s h=>exact .str l s h
 | agg cs vs hn h1 _ ih =>
  simp only [AV.closed1,List.all_eq_true] at hc
  exact .agg cs vs hn h1 fun i c v hi hv=>ih i c v hi hv (closed_closed1 (hc c (List.mem_of_getElem? hi)))
 | tup cs vs hn _ ih=>simp [AV.closed1,AV.closed] at hc
 | sl sz es o A cap u hcap hmax hA hsz hcl ho _ h1 ih =>
  refine .sl sz es o A cap u hcap hmax hA hsz hcl ?_ (fun i e j c hi hj=>ih i e j c hi hj (closed_closed1 (closed1_cells (hcl e (List.mem_of_getElem? hi)) hj))) h1
  cases o with
  | full=>exact ho
  | no=>trivial
  | nil=>exact ho
  | tok t=>simp [AV.closed1,AV.closed] at hc
 | elt sz es i0 j0 b off u hcl hA _ h1 ih=>simp [AV.closed1,AV.closed] at hc
 | ptr b off blk h=>simp [AV.closed1,AV.closed] at hc
 | fn f cs vs hn _ ih =>
  have h0:cs = []:=by simpa [AV.closed1,AV.closed] using hc
  subst h0
  exact .fn f [] vs hn fun i c v hi=>by simp at hi
 | mp b blk h=>simp [AV.closed1,AV.closed] at hc
 | ms b sz n blk cap h h1 h2 h3=>simp [AV.closed1,AV.closed] at hc
 | mel b sz i j blk h=>simp [AV.closed1,AV.closed] at hc
 | mst b sz i n blk cap A h hA=>simp [AV.closed1,AV.closed] at hc
 | opq v h=>exact .opq v h
 | ifc t v=>exact .ifc t v
 | junk v=>exact .junk v
end Go.Abs
namespace Go.Abs
open Go.RowKit Go.Maps Go.WideElems
def pairKey (P:Program) (k:TypeId):Option IntKind:=
 match P.underlying k with
 | some (.struct fs) =>
  match fs.toList with
  | [f,g] =>
   match P.underlying f.type,P.underlying g.type with
   | some .string,some (.int q) =>
    if P.keyTypeAt 3 k = true∧P.keyTypeAt (P.types.size + 1) k = true∧P.tiled 3 k = true∧P.cellsOf k = 2∧P.cellsOf f.type = 1∧P.cellsOf g.type = 1∧f.offset = 0∧g.offset = 1∧P.types.size ≠ 0 then some q else none
   | _,_=>none
  | _=>none
 | _=>none
theorem pairKey_some {P:Program} {k:TypeId} {q:IntKind} (h:pairKey P k = some q):∃ fs f g,P.underlying k = some (.struct fs)∧fs.toList = [f,g]∧P.underlying f.type = some .string∧P.underlying g.type = some (.int q) ∧
  (P.keyTypeAt 3 k = true∧P.keyTypeAt (P.types.size + 1) k = true∧P.tiled 3 k = true∧P.cellsOf k = 2∧P.cellsOf f.type = 1∧P.cellsOf g.type = 1∧f.offset = 0∧g.offset = 1∧P.types.size ≠ 0):=by
 unfold pairKey at h
 split at h
 ·rename_i fs hu
  split at h
  ·rename_i f g hfs
   split at h
   ·rename_i q' hf hg
    split at h
    ·rename_i hc
     injection h with h; subst h
     exact ⟨fs,f,g,hu,hfs,hf,hg,hc⟩
    ·cases h
   ·cases h
  ·cases h
 ·cases h
theorem pair_keyed {P:Program} {k:TypeId} {q:IntKind} (h:pairKey P k = some q):Keyed P k:=by
 obtain ⟨fs,f,g,hu,hfs,hf,hg,h1,h2,h3,_⟩:=pairKey_some h
 exact Keyed.of_law (deep_law (m:=3) (by omega) h1 h3 (by rw [hu]))
theorem keyOf_pairS {P:Program} {k:TypeId} {q:IntKind} (h:pairKey P k = some q) {s:ByteArray} {n:Int} (hs:s.data.toList.length≤maxLen) (hn:(Lit.int q n).wf = true) :
  keyOf P k (.agg #[.string s,.int q n]) = some (.string (keyBytes [.string s.data.toList,.int q n])):=by
 obtain ⟨fs,f,g,hu,hfs,hf,hg,h1,h2,h3,h4,h5,h6,h7,h8,h9⟩:=pairKey_some h
 have hnm:fs.all (·.name != "_") = true:=by
  unfold Program.keyTypeAt at h1
  simp only [hu,Bool.and_eq_true] at h1
  rw [Array.all_eq_true_iff_forall_mem] at h1 ⊢
  intro x hx
  exact (Bool.and_eq_true_iff.1 (h1.1.1 x hx)).1
 have hk:P.keyType k = true:=h2
 obtain ⟨m,hm⟩:∃ m,P.types.size = m + 1:=⟨P.types.size - 1,by omega⟩
 have hs':s.size≤maxLen:=by rw [Array.length_toList] at hs; exact hs
 unfold keyOf
 simp only [hu]
 rw [if_pos (by simp [hk,Value.formed,hu,h4]),hm]
 unfold Program.keyLits
 simp only [hu,Value.cells]
 rw [if_pos ⟨by simp [h4],hnm⟩,hfs]
 simp [h5,h6,h7,h8,Program.keyLits,hf,hg,hs',hn]
def keyKind (P:Program) (t:TypeId):Option (TypeId × TypeId):=
 match P.underlying t with
 | some (.map k e) =>
  match P.underlying k with
  | some .string | some (.int _) | some .bool=>some (k,e)
  | some (.struct _)=>if (pairKey P k).isSome = true then some (k,e) else none
  | _=>none
 | _=>none
def keyL (P:Program) (k:TypeId):AV→Option Lit
 | .int q n =>
  match P.underlying k with
  | some (.int q')=>if q = q'∧(Lit.int q n).wf = true then some (.int q n) else none
  | _=>none
 | .str l =>
  match P.underlying k with
  | some .string=>if l.length≤maxLen then some (.string l) else none
  | _=>none
 | .bool b =>
  match P.underlying k with
  | some .bool=>some (.bool b)
  | _=>none
 | .agg [.str l,.int q n] =>
  match pairKey P k with
  | some q'=>if q = q'∧(Lit.int q n).wf = true∧l.length≤maxLen then some (.string (keyBytes [.string l,.int q n])) else none
  | none=>none
 | _=>none
theorem keyKind_some {P:Program} {t k e:TypeId} (h:keyKind P t = some (k,e)):P.underlying t = some (.map k e)∧Keyed P k:=by
 unfold keyKind at h
 split at h
 ·rename_i k' e' ht
  split at h
  ·rename_i hk
   simp at h; obtain ⟨rfl,rfl⟩:=h
   exact ⟨ht,string_keyed hk⟩
  ·rename_i q hk
   simp at h; obtain ⟨rfl,rfl⟩:=h
   exact ⟨ht,int_keyed hk⟩
  ·rename_i hk
   simp at h; obtain ⟨rfl,rfl⟩:=h
   exact ⟨ht,bool_keyed hk⟩
  ·split at h
   ·rename_i hp
    obtain ⟨q,hq⟩:=Option.isSome_iff_exists.1 hp
    simp at h; obtain ⟨rfl,rfl⟩:=h
    exact ⟨ht,pair_keyed hq⟩
   ·cases h
  ·cases h
 ·cases h
theorem keyL_rep {P:Program} {k:TypeId} {a:AV} {kl:Lit} {E:Env} {w:World} {v:Value} (h:keyL P k a = some kl) (hr:Rep E w a v):keyOf P k v = some kl∧WideAt.IsKeyLit kl:=by
 unfold keyL at h
 split at h
 ·rename_i q n
  split at h
  ·rename_i q' hk
   split at h
   ·rename_i hc
    obtain ⟨rfl,hw⟩:=hc
    injection h with h; subst h
    cases hr
    exact ⟨keyOf_int_mk hk hw,trivial⟩
   ·cases h
  ·cases h
 ·rename_i l
  split at h
  ·rename_i hk
   split at h
   ·rename_i hc
    injection h with h; subst h
    cases hr with | str _ s hs =>
    subst hs
    exact ⟨WideMaps.keyOf_string_mk hk (by rw [Array.length_toList] at hc; exact hc),trivial⟩
   ·cases h
  ·cases h
 ·rename_i b
  split at h
  ·rename_i hk
   injection h with h; subst h
   cases hr
   exact ⟨keyOf_bool_mk hk b,trivial⟩
  ·cases h
 ·rename_i l q n
  split at h
  ·rename_i q' hk
   split at h
   ·rename_i hc
    obtain ⟨rfl,hw,hl⟩:=hc
    injection h with h; subst h
    cases hr with | agg _ vs hn _ hv =>
    obtain ⟨vs⟩:=vs
    match vs,hn with
    | [a,b],_ =>
     have h1:=hv 0 _ a rfl rfl
     have h2:=hv 1 _ b rfl rfl
     cases h1 with | str _ s hs =>
     cases h2
     subst hs
     exact ⟨keyOf_pairS hk hl hw,trivial⟩
   ·cases h
  ·cases h
 ·cases h
def valD0:AV→Option (DataW Unit)
 | .bool b=>some (.lit (.bool b))
 | .int k n=>some (.lit (.int k n))
 | .str l=>some (.lit (.string l))
 | _=>none
def valDs:List AV→Option (List (DataW Unit))
 | []=>some []
 | c :: l =>
  match valD0 c,valDs l with
  | some d,some ds=>some (d :: ds)
  | _,_=>none
def valD:AV→Option (DataW Unit)
 | .agg cs=>(valDs cs).map .agg
 | a=>valD0 a
def valV0:Value→Option (DataW Unit)
 | .bool b=>some (.lit (.bool b))
 | .int k n=>some (.lit (.int k n))
 | .string s=>some (.lit (.string s.data.toList))
 | _=>none
def valVs:List Value→Option (List (DataW Unit))
 | []=>some []
 | c :: l =>
  match valV0 c,valVs l with
  | some d,some ds=>some (d :: ds)
  | _,_=>none
def valV:Value→Option (DataW Unit)
 | .agg cs=>(valVs cs.toList).map .agg
 | v=>valV0 v
def rdE (v:Value):Option (DataW Unit × List MemPlace):=(valV v).map (·,[])
section
variable {E : Env} {w : World}
theorem val0_rep {a:AV} {v:Value} {d:DataW Unit} (h:valD0 a = some d) (hr:Rep E w a v):valV0 v = some d:=by
 cases a <;> simp [valD0] at h
 ·cases hr; simp [valV0,h]
 ·cases hr; simp [valV0,h]
 ·cases hr with | str _ s hs=>subst hs; simp [valV0,h]
theorem val0_inv {a:AV} {v:Value} {d:DataW Unit} (h:valD0 a = some d) (hv:valV0 v = some d):Rep E w a v∧v.oneCell' = true:=by
 cases a <;> simp [valD0] at h <;> subst h <;> cases v <;> simp [valV0] at hv
 ·subst hv; exact ⟨.bool _,rfl⟩
 ·obtain ⟨rfl,rfl⟩:=hv; exact ⟨.int _ _,rfl⟩
 ·exact ⟨.str _ _ hv,rfl⟩
theorem valDs_at:∀ {cs:List AV} {ds:List (DataW Unit)},valDs cs = some ds→ds.length = cs.length∧∀ (i:Nat) (c:AV),cs[i]? = some c→∃ d,ds[i]? = some d∧valD0 c = some d
 | [],ds,h=>by simp [valDs] at h; subst h; exact ⟨rfl,fun i c hc=>by simp at hc⟩
 | c :: l,ds,h=>by
  simp only [valDs] at h
  split at h
  ·rename_i d ds' h1 h2
   injection h with h; subst h
   obtain ⟨e1,e2⟩:=valDs_at h2
   refine ⟨by simp [e1],fun i c' hc=>?_⟩
   match i,hc with
   | 0,hc=>simp at hc; subst hc; exact ⟨d,rfl,h1⟩
   | i + 1,hc=>exact e2 i c' (by simpa using hc)
  ·cases h
theorem valVs_at:∀ {cs:List Value} {ds:List (DataW Unit)},valVs cs = some ds→ds.length = cs.length∧∀ (i:Nat) (c:Value),cs[i]? = some c→∃ d,ds[i]? = some d∧valV0 c = some d
 | [],ds,h=>by simp [valVs] at h; subst h; exact ⟨rfl,fun i c hc=>by simp at hc⟩
 | c :: l,ds,h=>by
  simp only [valVs] at h
  split at h
  ·rename_i d ds' h1 h2
   injection h with h; subst h
   obtain ⟨e1,e2⟩:=valVs_at h2
   refine ⟨by simp [e1],fun i c' hc=>?_⟩
   match i,hc with
   | 0,hc=>simp at hc; subst hc; exact ⟨d,rfl,h1⟩
   | i + 1,hc=>exact e2 i c' (by simpa using hc)
  ·cases h
theorem valVs_mk:∀ {cs:List Value} {ds:List (DataW Unit)},ds.length = cs.length→(∀ (i:Nat) (c:Value) (d:DataW Unit),cs[i]? = some c→ds[i]? = some d→valV0 c = some d)→valVs cs = some ds
 | [],[],_,_=>rfl
 | c :: l,d :: ds,hn,h=>by
  simp only [valVs]
  rw [h 0 c d rfl rfl,valVs_mk (by simpa using hn) fun i c' d' h1 h2=>h (i + 1) c' d' (by simpa using h1) (by simpa using h2)]
theorem val_rep {a:AV} {v:Value} {d:DataW Unit} (h:valD a = some d) (hr:Rep E w a v):valV v = some d:=by
 by_cases ha:∃ cs,a = .agg cs
 ·obtain ⟨cs,rfl⟩:=ha
  simp only [valD,Option.map_eq_some_iff] at h
  obtain ⟨ds,h1,rfl⟩:=h
  obtain ⟨e1,e2⟩:=valDs_at h1
  cases hr with | agg _ vs hn hone hc =>
  simp only [valV]
  rw [valVs_mk (cs:=vs.toList) (ds:=ds) (by simp [e1,hn]) fun i c d' hi hd=>?_]
  ·rfl
  ·rw [Array.getElem?_toList] at hi
   have hlt:i < cs.length:=by rw [← hn]; exact (Array.getElem?_eq_some_iff.1 hi).1
   obtain ⟨d'',h3,h4⟩:=e2 i cs[i] (List.getElem?_eq_getElem hlt)
   rw [hd] at h3; injection h3 with h3; subst h3
   exact val0_rep h4 (hc i _ c (List.getElem?_eq_getElem hlt) hi)
 ·have e:valD a = valD0 a:=by cases a <;> first | rfl | (exact absurd ⟨_,rfl⟩ ha)
  rw [e] at h
  have:=val0_rep h hr
  cases v <;> first | exact this | (simp [valV0] at this)
theorem val_inv {a:AV} {v:Value} {d:DataW Unit} (h:valD a = some d) (hv:valV v = some d):Rep E w a v:=by
 by_cases ha:∃ cs,a = .agg cs
 ·obtain ⟨cs,rfl⟩:=ha
  simp only [valD,Option.map_eq_some_iff] at h
  obtain ⟨ds,h1,rfl⟩:=h
  obtain ⟨e1,e2⟩:=valDs_at h1
  have hvv:∃ vs,v = .agg vs:=by cases v <;> simp [valV,valV0] at hv; exact ⟨_,rfl⟩
  obtain ⟨vs,rfl⟩:=hvv
  simp only [valV,Option.map_eq_some_iff] at hv
  obtain ⟨ds',h2,h3⟩:=hv
  injection h3 with h3; subst h3
  obtain ⟨f1,f2⟩:=valVs_at h2
  refine .agg cs vs (by rw [← Array.length_toList,← f1,e1]) (fun i v hi=>?_) fun i c v hi hv'=>?_
  ·obtain ⟨d,g1,g2⟩:=f2 i v (by rw [Array.getElem?_toList]; exact hi)
   have hlt:i < cs.length:=by rw [← e1]; exact (List.getElem?_eq_some_iff.1 g1).1
   obtain ⟨d',g3,g4⟩:=e2 i cs[i] (List.getElem?_eq_getElem hlt)
   rw [g1] at g3; injection g3 with g3; subst g3
   exact (val0_inv (E:=E) (w:=w) g4 g2).2
  ·obtain ⟨d,g1,g2⟩:=f2 i v (by rw [Array.getElem?_toList]; exact hv')
   obtain ⟨d',g3,g4⟩:=e2 i c hi
   rw [g1] at g3; injection g3 with g3; subst g3
   exact (val0_inv g4 g2).1
 ·have e:valD a = valD0 a:=by cases a <;> first | rfl | (exact absurd ⟨_,rfl⟩ ha)
  rw [e] at h
  have e2:valV0 v = some d:=by
   cases v <;> first | exact hv | (simp [valV] at hv; obtain ⟨ds,_,rfl⟩:=hv; cases a <;> simp [valD0] at h)
  exact (val0_inv h e2).1
theorem rdE_some {v:Value} {z:DataW Unit × List MemPlace} (h:rdE v = some z):valV v = some z.1:=by
 simp only [rdE,Option.map_eq_some_iff] at h
 obtain ⟨d,h1,rfl⟩:=h
 exact h1
end
/-! ### lists of pairs -/
def keyEq:AV→AV→Bool
 | .int q n,.int q' n'=>decide (q = q') && (n == n')
 | .str l,.str l'=>l == l'
 | .bool b,.bool b'=>b == b'
 | .agg [.str l,.int q n],.agg [.str l',.int q' n']=>l == l' && (decide (q = q') && (n == n'))
 | _,_=>false
theorem keyL_bool {P:Program} {k:TypeId} {a:AV} {x:Lit} (h:keyL P k a = some x):(∃ l q n,a = .agg [.str l,.int q n]∧(∃ fs,P.underlying k = some (.struct fs))∧pairKey P k = some q∧(Lit.int q n).wf = true∧l.length≤maxLen∧x = .string (keyBytes [.string l,.int q n])) ∨
  (∀ fs,P.underlying k ≠ some (.struct fs)):=by
 unfold keyL at h
 split at h
 ·right
  intro fs hu
  rw [hu] at h; cases h
 ·right
  intro fs hu
  rw [hu] at h; cases h
 ·right
  intro fs hu
  rw [hu] at h; cases h
 ·rename_i l q n
  left
  split at h
  ·rename_i q' hp
   split at h
   ·rename_i hc
    obtain ⟨rfl,hw,hl⟩:=hc
    injection h with h
    obtain ⟨fs,f,g,hu,_⟩:=pairKey_some hp
    exact ⟨l,q,n,rfl,⟨fs,hu⟩,hp,hw,hl,h.symm⟩
   ·cases h
  ·cases h
 ·cases h
def lookM:List AV→AV→Option AV
 | [],_=>none
 | .tup [k',v] :: es,k=>if keyEq k' k then some v else lookM es k
 | _ :: es,k=>lookM es k
def keptPutM:List AV→AV→AV→List AV
 | [],k,v=>[.tup [k,v]]
 | .tup [k',v'] :: es,k,v=>if keyEq k' k then .tup [k',v] :: es else .tup [k',v'] :: keptPutM es k v
 | e :: es,k,v=>e :: keptPutM es k v
def keptDelM:List AV→AV→List AV
 | [],_=>[]
 | .tup [k',v'] :: es,k=>if keyEq k' k then keptDelM es k else .tup [k',v'] :: keptDelM es k
 | e :: es,k=>e :: keptDelM es k
def GoodM (P:Program) (k:TypeId) (es:List AV):Prop:=∀ e ∈ es,∃ a v kl d,e = .tup [a,v]∧keyL P k a = some kl∧valD v = some d
def MapRel (P:Program) (k:TypeId) (es:List AV) (D:DataW Unit):Prop:=
 IsMap D∧∀ a kl,keyL P k a = some kl→∀ z,D.atKey kl z = ((lookM es a).bind valD).getD z
theorem keyEq_iff {P:Program} {k:TypeId} {a b:AV} {x y:Lit} (ha:keyL P k a = some x) (hb:keyL P k b = some y):keyEq a b = true ↔ x = y:=by
 rcases keyL_bool ha with ⟨l,q,n,rfl,⟨fs,hu⟩,hp,hw,hl,rfl⟩ | hns
 ·rcases keyL_bool hb with ⟨l',q',n',rfl,_,hp',hw',hl',rfl⟩ | hns
  ·rw [hp] at hp'
   injection hp' with hq
   subst hq
   simp only [keyEq,Bool.and_eq_true,beq_iff_eq,decide_true,true_and]
   constructor
   ·rintro ⟨rfl,rfl⟩; rfl
   ·intro h
    injection h with h
    have:=keyBytes_inj (l:=[.string l,.int q n]) (l':=[.string l',.int q n']) ⟨trivial,rfl,trivial⟩ (fun a ha=>by
     simp only [List.mem_cons,List.not_mem_nil,or_false] at ha
     rcases ha with rfl | rfl
     ·exact hl
     ·exact hw) (fun a ha=>by
     simp only [List.mem_cons,List.not_mem_nil,or_false] at ha
     rcases ha with rfl | rfl
     ·exact hl'
     ·exact hw') h
    simp only [List.cons.injEq,Lit.string.injEq,Lit.int.injEq,true_and,and_true] at this
    exact this
  ·exact absurd hu (hns fs)
 have hnp:pairKey P k = none:=by
  cases hp:pairKey P k with
  | none=>rfl
  | some q =>
   obtain ⟨fs,_,_,hu,_⟩:=pairKey_some hp
   exact absurd hu (hns fs)
 unfold keyL at ha hb
 simp only [hnp] at ha hb
 split at ha
 ·split at ha
  ·split at ha
   ·rename_i hc; injection ha with ha; subst ha
    split at hb
    ·split at hb
     ·split at hb
      ·rename_i hc'; injection hb with hb; subst hb; simp [keyEq]
      ·cases hb
     ·cases hb
    ·split at hb
     ·simp_all
     ·cases hb
    ·split at hb
     ·simp_all
     ·cases hb
    ·cases hb
    ·cases hb
   ·cases ha
  ·cases ha
 ·split at ha
  ·split at ha
   ·injection ha with ha; subst ha
    split at hb
    ·split at hb
     ·simp_all
     ·cases hb
    ·split at hb
     ·split at hb
      ·injection hb with hb; subst hb; simp [keyEq]
      ·cases hb
     ·cases hb
    ·split at hb
     ·simp_all
     ·cases hb
    ·cases hb
    ·cases hb
   ·cases ha
  ·cases ha
 ·split at ha
  ·injection ha with ha; subst ha
   split at hb
   ·split at hb
    ·simp_all
    ·cases hb
   ·split at hb
    ·simp_all
    ·cases hb
   ·split at hb
    ·injection hb with hb; subst hb; simp [keyEq]
    ·cases hb
   ·cases hb
   ·cases hb
  ·cases ha
 ·cases ha
 ·cases ha
theorem keyL_lit {P:Program} {k:TypeId} {a:AV} {kl:Lit} (h:keyL P k a = some kl):WideAt.IsKeyLit kl:=by
 unfold keyL at h
 repeat' split at h
 all_goals first | (cases h; done) | (injection h with h; subst h; trivial)
section
variable {P : Program} {k : TypeId}
theorem lookM_put {es:List AV} (hg:GoodM P k es) {a v:AV} {kl:Lit} (ha:keyL P k a = some kl) {b:AV} {kb:Lit} (hb:keyL P k b = some kb) :
  lookM (keptPutM es a v) b = if keyEq a b = true then some v else lookM es b:=by
 induction es with
 | nil=>rfl
 | cons x es ih =>
  obtain ⟨a',v',kl',d',rfl,h1,h2⟩:=hg x (by simp)
  have ih:=ih fun e he=>hg e (by simp [he])
  have tr:keyEq a' a = true→(keyEq a' b = true ↔ keyEq a b = true):=fun h=>by
   have:=(keyEq_iff h1 ha).1 h
   rw [keyEq_iff h1 hb,keyEq_iff ha hb,this]
  simp only [keptPutM]
  by_cases e:keyEq a' a = true
  ·rw [if_pos e]
   simp only [lookM]
   by_cases e2:keyEq a b = true
   ·rw [if_pos ((tr e).2 e2),if_pos e2]
   ·rw [if_neg (fun h=>e2 ((tr e).1 h)),if_neg e2,if_neg (fun h=>e2 ((tr e).1 h))]
  ·rw [if_neg e]
   simp only [lookM]
   by_cases e2:keyEq a' b = true
   ·have e3:¬ keyEq a b = true:=fun h=>e (by
     rw [keyEq_iff h1 ha,(keyEq_iff h1 hb).1 e2,(keyEq_iff ha hb).1 h])
    rw [if_pos e2,if_neg e3,if_pos e2]
   ·rw [if_neg e2,ih,if_neg e2]
theorem lookM_del {es:List AV} (hg:GoodM P k es) {a:AV} {kl:Lit} (ha:keyL P k a = some kl) {b:AV} {kb:Lit} (hb:keyL P k b = some kb) :
  lookM (keptDelM es a) b = if keyEq a b = true then none else lookM es b:=by
 induction es with
 | nil=>simp [keptDelM,lookM]
 | cons x es ih =>
  obtain ⟨a',v',kl',d',rfl,h1,h2⟩:=hg x (by simp)
  have ih:=ih fun e he=>hg e (by simp [he])
  have tr:keyEq a' a = true→(keyEq a' b = true ↔ keyEq a b = true):=fun h=>by
   have:=(keyEq_iff h1 ha).1 h
   rw [keyEq_iff h1 hb,keyEq_iff ha hb,this]
  simp only [keptDelM]
  by_cases e:keyEq a' a = true
  ·rw [if_pos e,ih]
   simp only [lookM]
   by_cases e2:keyEq a b = true
   ·rw [if_pos e2,if_pos e2]
   ·rw [if_neg e2,if_neg e2,if_neg (fun h=>e2 ((tr e).1 h))]
  ·rw [if_neg e]
   simp only [lookM]
   by_cases e2:keyEq a' b = true
   ·have e3:¬ keyEq a b = true:=fun h=>e (by
     rw [keyEq_iff h1 ha,(keyEq_iff h1 hb).1 e2,(keyEq_iff ha hb).1 h])
    rw [if_pos e2,if_neg e3,if_pos e2]
   ·rw [if_neg e2,ih,if_neg e2]
theorem goodM_put {es:List AV} (hg:GoodM P k es) {a v:AV} {kl:Lit} {d:DataW Unit} (ha:keyL P k a = some kl) (hv:valD v = some d):GoodM P k (keptPutM es a v):=by
 induction es with
 | nil=>intro e he; simp [keptPutM] at he; subst he; exact ⟨a,v,kl,d,rfl,ha,hv⟩
 | cons x es ih =>
  obtain ⟨a',v',kl',d',rfl,h1,h2⟩:=hg x (by simp)
  have ih:=ih fun e he=>hg e (by simp [he])
  simp only [keptPutM]
  split
  ·intro e he
   rcases List.mem_cons.1 he with rfl | he
   ·exact ⟨a',v,kl',d,rfl,h1,hv⟩
   ·exact hg e (by simp [he])
  ·intro e he
   rcases List.mem_cons.1 he with rfl | he
   ·exact ⟨a',v',kl',d',rfl,h1,h2⟩
   ·exact ih e he
theorem goodM_del {es:List AV} (hg:GoodM P k es) (a:AV):GoodM P k (keptDelM es a):=by
 induction es with
 | nil=>intro e he; simp [keptDelM] at he
 | cons x es ih =>
  obtain ⟨a',v',kl',d',rfl,h1,h2⟩:=hg x (by simp)
  have ih:=ih fun e he=>hg e (by simp [he])
  simp only [keptDelM]
  split
  ·exact ih
  ·intro e he
   rcases List.mem_cons.1 he with rfl | he
   ·exact ⟨a',v',kl',d',rfl,h1,h2⟩
   ·exact ih e he
theorem mapRel_nil:MapRel P k [] (.map []):=⟨isMap_empty,fun _a _kl _h _z=>rfl⟩
theorem mapRel_put {es:List AV} {D:DataW Unit} (h:MapRel P k es D) (hg:GoodM P k es) {a v:AV} {kl:Lit} {d:DataW Unit} (ha:keyL P k a = some kl) (hv:valD v = some d):MapRel P k (keptPutM es a v) (D.put kl d):=by
 refine ⟨h.1.put _ _,fun b kb hb z=>?_⟩
 rw [lookM_put hg ha hb]
 by_cases e:kb = kl
 ·subst e
  rw [if_pos ((keyEq_iff ha hb).2 rfl),atKey_put_same h.1 (keyL_lit hb)]; simp [hv]
 ·rw [if_neg (fun h=>e ((keyEq_iff ha hb).1 h).symm),atKey_put_other e]; exact h.2 b kb hb z
theorem mapRel_del {es:List AV} {D:DataW Unit} (h:MapRel P k es D) (hg:GoodM P k es) {a:AV} {kl:Lit} (ha:keyL P k a = some kl):MapRel P k (keptDelM es a) (D.del kl):=by
 refine ⟨h.1.del _,fun b kb hb z=>?_⟩
 rw [lookM_del hg ha hb]
 by_cases e:kb = kl
 ·subst e
  rw [if_pos ((keyEq_iff ha hb).2 rfl),atKey_del_same]; rfl
 ·rw [if_neg (fun h=>e ((keyEq_iff ha hb).1 h).symm),atKey_del_other e]; exact h.2 b kb hb z
theorem lookM_good {es:List AV} (hg:GoodM P k es) {a v:AV} (h:lookM es a = some v):∃ d,valD v = some d:=by
 induction es with
 | nil=>simp [lookM] at h
 | cons x es ih =>
  obtain ⟨a',v',kl',d',rfl,h1,h2⟩:=hg x (by simp)
  simp only [lookM] at h
  split at h
  ·injection h with h; subst h; exact ⟨d',h2⟩
  ·exact ih (fun e he=>hg e (by simp [he])) h
theorem has_of {es:List AV} {D:DataW Unit} (h:MapRel P k es D) (hg:GoodM P k es) {a:AV} {kl:Lit} (ha:keyL P k a = some kl):Maps.has D kl = (lookM es a).isSome:=by
 cases hl:lookM es a with
 | none=>exact has_false_of_atKey fun z=>by rw [h.2 a kl ha z,hl]; rfl
 | some v =>
  obtain ⟨d,hd⟩:=lookM_good hg hl
  exact has_true_of_atKey (y:=d) fun z=>by rw [h.2 a kl ha z,hl]; simp [hd]
end
end Go.Abs
namespace Go.Abs
open Go.RowKit
structure St where
 boxes:List (Option (List AV))
 live:List (Nat × TypeId)
def absV0:Value→AV
 | .bool b=>.bool b
 | .int k n=>.int k n
 | .string s=>.str s.data.toList
 | .slice none 0 0=>.sl 0 [] .nil
 | .pointer none=>.lit (.pointer none)
 | .nilFunc=>.lit .nilFunc
 | .nilIface=>.lit .nilIface
 | .map none=>.lit (.map none)
 | _=>.junk
def absV:Value→AV
 | .agg cs=>if cs.toList.all (·.oneCell') then .agg (cs.toList.map absV0) else .junk
 | .tuple vs=>if vs.toList.isEmpty then .tup [] else .junk
 | v=>absV0 v
abbrev Glob:=Nat→Option AV
def evA (G:Glob) (T:List AV):Operand→AV
 | .tmp t=>T.getD t (.tup [])
 | .const v=>absV v
 | .global g =>
  match G g with
  | some e=>.elt e.cells.length [e] 0 0
  | none=>.junk
 | .func f=>.fn f []
def AV.strip0:AV→AV
 | .sl sz es (.tok _)=>.sl sz es .no
 | v=>v
def AV.strip1:AV→AV
 | .agg cs=>.agg (cs.map AV.strip0)
 | v=>v.strip0
def AV.plain:AV→Bool
 | .tup _ | .junk=>false
 | _=>true
def aggA (P:Program) (t:TypeId):Option Bool:=(P.underlying t).map fun
 | .struct _ | .array _ _=>true
 | _=>false
def sizeA (P:Program) (t:TypeId):Option Nat:=(P.info? t).map (·.size)
def bitsA (k:IntKind) (f:BitVec k.bits→BitVec k.bits→BitVec k.bits) (a b:Int):AV:=
 .int k (k.wrap (f (BitVec.ofInt k.bits a) (BitVec.ofInt k.bits b)).toNat)
def cmpA (op:BinOp) (a b:Int):Option AV:=
 match op with
 | .eql=>some (.bool (a == b))
 | .neq=>some (.bool (a != b))
 | .lss=>some (.bool (decide (a < b)))
 | .leq=>some (.bool (decide (a≤b)))
 | .gtr=>some (.bool (decide (a > b)))
 | .geq=>some (.bool (decide (a ≥ b)))
 | _=>none
def intA (op:BinOp) (k:IntKind) (a b:Int):Option AV:=
 match op with
 | .add=>some (.int k (k.wrap (a + b)))
 | .sub=>some (.int k (k.wrap (a - b)))
 | .mul=>some (.int k (k.wrap (a * b)))
 | .quo=>if b = 0 then none else some (.int k (k.wrap (a.tdiv b)))
 | .rem=>if b = 0 then none else some (.int k (a.tmod b))
 | .and=>some (bitsA k (· &&& ·) a b)
 | .or=>some (bitsA k (· ||| ·) a b)
 | .xor=>some (bitsA k (· ^^^ ·) a b)
 | .andNot=>some (bitsA k (fun x y=>x &&& ~~~y) a b)
 | op=>cmpA op a b
def shiftA (op:BinOp) (k:IntKind) (a b:Int):Option AV:=
 if b < 0 then none else
 match op with
 | .shl=>some (.int k (k.wrap (a * 2 ^ (min b.toNat k.bits))))
 | .shr=>some (.int k (a.fdiv (2 ^ (min b.toNat k.bits))))
 | _=>none
def strA (op:BinOp) (a b:List UInt8):Option AV:=
 match op with
 | .add=>if a.length + b.length≤9223372036854775807 then some (.str (a ++ b)) else none
 | .eql=>some (.bool (a == b))
 | .neq=>some (.bool !(a == b))
 | .lss=>some (.bool (Op.bytesLess a b))
 | .leq=>some (.bool (Op.bytesLess a b || a == b))
 | .gtr=>some (.bool !(Op.bytesLess a b || a == b))
 | .geq=>some (.bool !(Op.bytesLess a b))
 | _=>none
def eqScalA (P:Program) (t:TypeId):AV→AV→Option Bool
 | .bool a,.bool b=>match P.underlying t with
  | some .bool=>some (a == b)
  | _=>none
 | .int k a,.int k' b=>match P.underlying t with
  | some (.int _)=>if k = k' then some (a == b) else none
  | _=>none
 | .str a,.str b=>match P.underlying t with
  | some .string=>some (a == b)
  | _=>none
 | _,_=>none
def subA (P:Program) (t:TypeId) (cs:List AV) (off:Nat):Option AV:=
 match aggA P t with
 | some true=>(sizeA P t).map fun s=>.agg ((cs.drop off).take s)
 | some false=>cs[off]?
 | none=>none
mutual
def eqA (P:Program):Nat→TypeId→AV→AV→Option Bool
 | 0,_,_,_=>none
 | d + 1,t,.agg xs,.agg ys =>
  match P.underlying t with
  | some (.struct fs)=>if P.stoodInHeld t then none else eqFieldsA P d xs ys fs.toList
  | _=>none
 | _ + 1,t,x,y=>eqScalA P t x y
def eqFieldsA (P:Program):Nat→List AV→List AV→List Field→Option Bool
 | _,_,_,[]=>some true
 | 0,_,_,_ :: _=>none
 | d + 1,xs,ys,f :: fs =>
  if f.name = "_" then none else
  match subA P f.type xs f.offset,subA P f.type ys f.offset with
  | some x,some y =>
   match eqA P d f.type x y with
   | some true=>eqFieldsA P d xs ys fs
   | some false=>some false
   | none=>none
  | _,_=>none
end
def eqDepth:Nat:=40
def equalA (P:Program) (t:TypeId) (x y:AV):Option Bool:=
 match x,y with
 | .agg _,.agg _=>if P.eqGuardType P.depth t then none else eqA P eqDepth t x y
 | _,_=>eqA P eqDepth t x y
def nilEqA (es:List AV) (o:Own):Option Bool:=
 match o with
 | .nil=>some true
 | _=>if es.isEmpty then none else some false
def binA (P:Program) (op:BinOp) (t:TypeId) (kc:Bool):AV→AV→Option AV
 | .lit .nilIface,.lit .nilIface =>
  match P.underlying t,kc,op with
  | some (.interface _),true,.eql=>some (.bool true)
  | some (.interface _),true,.neq=>some (.bool false)
  | _,_,_=>none
 | .lit .nilIface,.ifc | .ifc,.lit .nilIface =>
  match P.underlying t,op with
  | some (.interface _),.eql=>some (.bool false)
  | some (.interface _),.neq=>some (.bool true)
  | _,_=>none
 | .sl _ es o,.sl _ [] .nil =>
  match P.underlying t,op with
  | some (.slice _),.eql=>(nilEqA es o).map .bool
  | some (.slice _),.neq=>(nilEqA es o).map fun b=>.bool !b
  | _,_=>none
 | .int k a,.int k' b =>
  match op with
  | .shl | .shr=>shiftA op k a b
  | op=>if k = k' then intA op k a b else none
 | .str a,.str b=>strA op a b
 | x,y =>
  match op with
  | .eql=>(equalA P t x y).map .bool
  | .neq=>(equalA P t x y).map fun b=>.bool !b
  | _=>none
def unA (op:UnOp):AV→Option AV
 | .int k n =>
  match op with
  | .neg=>some (.int k (k.wrap (0 - n)))
  | .xor=>some (bitsA k (· ^^^ ·) (if k.signed then -1 else k.max) n)
  | _=>none
 | .bool b =>
  match op with
  | .not=>some (.bool !b)
  | _=>none
 | _=>none
def fieldAddrA (P:Program) (s:TypeId) (f:Nat) (x:AV):Option AV:=
 match P.underlying s with
 | some (.struct fs) =>
  match fs[f]? with
  | some fd =>
   if sizeA P fd.type = some 0∨sizeA P fd.type = none then none else
   match x with
   | .ptr b o=>some (.ptr b (o + fd.offset))
   | .elt sz es i j=>some (.elt sz es i (j + fd.offset))
   | .mel b sz i j=>some (.mel b sz i (j + fd.offset))
   | _=>none
  | none=>none
 | _=>none
def indexAddrA (P:Program) (t:TypeId) (x i:AV):Option AV:=
 match P.underlying t,i with
 | some (.slice e),.int _ n =>
  match x with
  | .sl sz es _=>if 0≤n∧n < es.length∧sizeA P e = some sz then some (.elt sz es n.toNat 0) else none
  | .ms b sz len=>if 0≤n∧n < len∧sizeA P e = some sz then some (.mel b sz n.toNat 0) else none
  | _=>none
 | some (.array len e),.int _ n =>
  if 0≤n∧n < len then
   match sizeA P e,x with
   | some s,.ptr b o=>some (.ptr b (o + n.toNat * s))
   | some s,.elt sz es i j=>some (.elt sz es i (j + n.toNat * s))
   | _,_=>none
  else none
 | _,_=>none
def takeA (agg:Option Bool) (size:Option Nat) (cs:List AV) (o:Nat):Option AV:=
 match agg,size with
 | some true,some s=>if o + s≤cs.length then some (.agg ((cs.drop o).take s)) else none
 | some false,some _=>cs[o]?
 | _,_=>none
def isRow:List AV→Bool
 | [.tup _]=>false
 | _=>true
def loadA (P:Program) (S:St) (t:TypeId):AV→Option AV
 | .ptr b o =>
  match S.boxes[b]? with
  | some (some cs)=>if isRow cs then takeA (aggA P t) (sizeA P t) cs o else none
  | _=>none
 | .elt _ es i j =>
  match es[i]? with
  | some e=>takeA (aggA P t) (sizeA P t) e.cells j
  | none=>none
 | .mel b sz i j =>
  match S.boxes[b]? with
  | some (some [.tup [.bool _,.sl sz' es .no]]) =>
   if sz' = sz then
    match es[i]? with
    | some e=>takeA (aggA P t) (sizeA P t) e.cells j
    | none=>none
   else none
  | _=>none
 | _=>none
def reC (e:AV) (cs:List AV):AV:=
 match e with
 | .agg _=>.agg cs
 | _=>cs.headD .junk
def keptSetC (e:AV) (j:Nat) (xs:List AV):AV:=reC e (e.cells.take j ++ xs ++ e.cells.drop (j + xs.length))
abbrev ownC (sz:Nat) (es:List AV):List AV:=[.tup [.bool true,.sl sz es .no]]
abbrev frzC (sz:Nat) (es:List AV):List AV:=[.tup [.bool false,.sl sz es .no]]
abbrev deadC:List AV:=[.tup []]
def spliceA (cs:List AV) (o:Nat) (xs:List AV):List AV:=cs.take o ++ xs ++ cs.drop (o + xs.length)
def storeA (P:Program) (S:St) (t:TypeId) (a x:AV):Option St:=
 match a with
 | .ptr b o =>
  match S.boxes[b]? with
  | some (some cs) =>
   if x.plain∧sizeA P t = some x.cells.length∧o + x.cells.length≤cs.length∧isRow cs∧isRow (spliceA cs o x.cells) then some { S with boxes:=S.boxes.set b (some (spliceA cs o x.cells)) } else none
  | _=>none
 | .mel b sz i j =>
  match S.boxes[b]? with
  | some (some [.tup [.bool true,.sl sz' es .no]]) =>
   match es[i]? with
   | some e =>
    if sz' = sz∧x.strip1.closed1∧sizeA P t = some x.strip1.cells.length∧j + x.strip1.cells.length≤sz∧0 < x.strip1.cells.length then
     some { S with boxes:=S.boxes.set b (some (ownC sz (es.set i (reC e (spliceA e.cells j x.strip1.cells))))) }
    else none
   | none=>none
  | _=>none
 | _=>none
def fillA (place:Nat→Option (Nat × Nat)) (cells:List AV):List (Nat × AV)→Option (List AV)
 | []=>some cells
 | (i,v) :: rest =>
  match place i with
  | none=>none
  | some (off,size) =>
   if v.plain∧v.cells.length = size∧off + v.cells.length≤cells.length then fillA place (spliceA cells off v.cells) rest else none
def zeroA (P:Program) (t:TypeId):Option Value:=(P.info? t).bind (·.zero)
def buildA (P:Program) (t:TypeId) (parts:List (Nat × AV)):Option AV:=
 match zeroA P t,P.underlying t with
 | some z,some (.struct fs) =>
  if z.cells.toList.all (·.oneCell')∧fs.toList.all (fun f=>(sizeA P f.type).isSome) then
   (fillA (fun i=>(fs[i]?).map fun f=>(f.offset,(sizeA P f.type).getD 0)) (z.cells.toList.map absV0) parts).map .agg
  else none
 | some z,some (.array _ e) =>
  if z.cells.toList.all (·.oneCell') then
   match sizeA P e with
   | some s=>(fillA (fun i=>some (i * s,s)) (z.cells.toList.map absV0) parts).map .agg
   | none=>none
  else none
 | _,_=>none
def buildSliceA (P:Program) (t:TypeId) (len:Nat) (parts:List (Nat × AV)):Option AV:=
 match P.underlying t with
 | some (.slice e) =>
  match sizeA P e with
  | some s =>
   if parts.map (·.1) = List.range len∧len * s≤16777216∧len≤16777216∧(zeroA P e).isSome∧(parts.all fun p=>p.2.strip1.closed1 && (p.2.cells.length == s)) then
    some (.sl s (parts.map fun p=>p.2.strip1) .full)
   else none
  | none=>none
 | _=>none
def ownAfter (o:Own) (len l h:Nat) (m:Option (Option Nat)):Own:=
 match m with
 | some (some m)=>if m = h then .full else .no
 | some none=>.no
 | none =>
  match o with
  | .full=>if h = len then .full else .no
  | .tok t=>if l = 0∧h = len then .tok t else .no
  | .no | .nil=>.no
def boundA (x:Option AV) (d:Nat):Option Nat:=
 match x with
 | none=>some d
 | some (.int _ n)=>if 0≤n then some n.toNat else none
 | some _=>none
def sliceA (P:Program) (t:TypeId) (x:AV) (lo hi mx:Option AV):Option AV:=
 match P.underlying t,x with
 | some .string,.str s =>
  match mx,boundA lo 0,boundA hi s.length with
  | none,some l,some h=>if l≤h∧h≤s.length then some (.str ((s.take h).drop l)) else none
  | _,_,_=>none
 | some (.slice e),.sl sz es o =>
  match boundA lo 0,boundA hi es.length,sizeA P e with
  | some l,some h,some s =>
   if l≤h∧h≤es.length∧(s = sz∨es = []) then
    match mx with
    | none=>some (.sl sz ((es.take h).drop l) (ownAfter o es.length l h none))
    | some (.int _ m)=>if hi.isSome∧h≤m∧m≤es.length then some (.sl sz ((es.take h).drop l) (ownAfter o es.length l h (some (some m.toNat)))) else none
    | _=>none
   else none
  | _,_,_=>none
 | some (.slice e),.ms b sz n =>
  match mx,boundA lo 0,boundA hi n,sizeA P e with
  | none,some l,some h,some s=>if l≤h∧h≤n∧s = sz then some (if lo.isNone then .ms b sz h else .mst b sz l (h - l)) else none
  | _,_,_,_=>none
 | _,_=>none
def clearA (P:Program) (S:St) (t:TypeId) (x:AV):Option St:=
 match P.underlying t,x with
 | some (.slice e),.mst b sz i n =>
  match S.boxes[b]?,zeroA P e with
  | some (some [.tup [.bool true,.sl sz' es .no]]),some z =>
   if (sz' = sz∧0 < sz∧z.cells.size = sz∧z.cells.toList.all (·.oneCell'))∧i + n≤es.length then some { S with boxes:=S.boxes.set b (some (ownC sz (es.take i))) } else none
  | _,_=>none
 | _,_=>none
def copyTo (P:Program) (S:St) (e:TypeId) (b sz i n sy:Nat) (ys:List AV):Option (AV × St):=
 match S.boxes[b]? with
 | some (some [.tup [.bool true,.sl sz' es .no]]) =>
  if (sz' = sz∧0 < sz∧sizeA P e = some sz)∧(sy = sz∨ys = [])∧i + n≤es.length then
   some (.int .i64 (min ys.length n:Nat),{ S with boxes:=S.boxes.set b (some (ownC sz (es.take i ++ ys.take n ++ es.drop (i + min ys.length n)))) }) else none
 | _=>none
def copyA (P:Program) (S:St) (t:TypeId) (x y:AV):Option (AV × St):=
 match P.underlying t,y with
 | some (.slice e),.sl sy ys _ =>
  match x with
  | .ms b sz n=>copyTo P S e b sz 0 n sy ys
  | .mst b sz i n=>copyTo P S e b sz i n sy ys
  | _=>none
 | _,_=>none
def byteOf:AV→Option UInt8
 | .int .u8 n=>some (UInt8.ofNat n.toNat)
 | _=>none
def convertA (P:Program) (src dst:TypeId) (x:AV):Option AV:=
 match P.underlying src,P.underlying dst,x with
 | some _,some (.int k),.int _ n=>some (.int k (k.wrap n))
 | some (.int _),some .string,.int _ n=>some (.str (Utf8.encode n).data.toList)
 | some .string,some .string,.str s=>some (.str s)
 | some .string,some (.slice e),.str s =>
  match P.underlying e with
  | some (.int .u8)=>if s.length≤70368744177664 then some (.sl 1 (s.map fun c=>.int .u8 c.toNat) .no) else none
  | _=>none
 | some (.slice e),some .string,.sl sz es _ =>
  match P.underlying e with
  | some (.int .u8)=>if sz = 1∨es = [] then (es.mapM byteOf).map .str else none
  | _=>none
 | _,_,_=>none
def indexA (P:Program) (t:TypeId) (x i:AV):Option AV:=
 match P.underlying t,x,i with
 | some .string,.str s,.int _ n=>if 0≤n then (s[n.toNat]?).map fun c=>.int .u8 c.toNat else none
 | some (.array len e),.agg cs,.int _ n =>
  if 0≤n∧n < len then
   match aggA P e,sizeA P e with
   | some false,some s=>cs[n.toNat * s]?
   | _,_=>none
  else none
 | _,_,_=>none
def lenA (P:Program) (t:TypeId) (x:AV):Option AV:=
 match P.underlying t,x with
 | some .string,.str s=>some (.int .i64 s.length)
 | some (.slice _),.sl _ es _=>some (.int .i64 es.length)
 | some (.slice _),.ms _ _ n=>some (.int .i64 n)
 | some (.array n _),_=>some (.int .i64 n)
 | _,_=>none
def srcA (P:Program) (tx:TypeId) (s:Nat) (x:AV):Option (List AV):=
 match P.underlying tx,x with
 | some (.slice _),.sl sz es _=>if sz = s∨es = [] then some es else none
 | some .string,.str l=>if s = 1 then some (l.map fun c=>.int .u8 c.toNat) else none
 | _,_=>none
def roomA:Nat:=70368744177664
def appendA (P:Program) (S:St) (t tx:TypeId) (x y:AV):Option (AV × St):=
 match P.underlying t with
 | some (.slice e) =>
  match P.info? e,x with
  | some i,.sl sz es o =>
   if (sz = i.size∨es = [])∧0 < i.size∧(i.zero.map fun z=>z.cells.size) = some i.size then
    match srcA P tx i.size y with
    | some ys =>
     if (es.length + ys.length) * (i.bytes + 1)≤roomA then
      if ys = [] then some (.sl sz es o,S) else
      match o.weak with
      | .full=>some (.sl i.size (es ++ ys) (.tok S.live.length),{ S with live:=S.live ++ [(es.length + ys.length,e)] })
      | .tok k =>
       match S.live[k]? with
       | some (n,e')=>if n = es.length∧e' = e then some (.sl i.size (es ++ ys) (.tok k),{ S with live:=S.live.set k (es.length + ys.length,e) }) else none
       | none=>none
      | .no | .nil=>none
     else none
    | none=>none
   else none
  | _,_=>none
 | _=>none
def makeSliceA (P:Program) (S:St) (t:TypeId) (l c:AV):Option (AV × St):=
 match P.underlying t,l,c with
 | some (.slice e),.int .i64 n,.int .i64 m =>
  match P.info? e with
  | some i =>
   match i.zero with
   | some z =>
    if 0≤n∧n≤m∧m * (i.bytes + 1)≤roomA∧z.cells.size = i.size∧0 < i.size∧(absV z).closed1∧(absV z).cells.length = i.size∧z.cells.toList.all (·.oneCell') then
     some (.sl i.size (List.replicate n.toNat (absV z)) (.tok S.live.length),{ S with live:=S.live ++ [(n.toNat,e)] })
    else none
   | none=>none
  | none=>none
 | _,_,_=>none
def adopt (L:Nat):AV→AV
 | .sl sz es (.tok _)=>.sl sz es (.tok L)
 | .tup (.sl sz es (.tok _) :: vs)=>.tup (.sl sz es (.tok L) :: vs)
 | r=>r
def isK:Operand→Bool
 | .const _=>true
 | _=>false
def maxA:AV→AV→Option AV
 | .int k a,.int k' b=>if k = k' then some (.int k (max a b)) else none
 | _,_=>none
def minA:AV→AV→Option AV
 | .int k a,.int k' b=>if k = k' then some (.int k (min a b)) else none
 | _,_=>none
abbrev Callee:=FuncId→List AV→Option (AV × List (Nat × TypeId))
abbrev ICallee:=FuncId→List AV→St→Option (AV × St)
def noC:ICallee:=fun _ _ _=>none
def callA (R:Callee) (S:St) (f:FuncId) (args:List AV):Option (AV × St):=
 if (args.map AV.strip1).all AV.closed1 then
  match R f (args.map AV.strip1) with
  | some (r,[])=>some (r,S)
  | some (r,p :: lv)=>some (adopt S.live.length r,{ S with live:=S.live ++ p :: lv })
  | none=>none
 else none
/-! slices that are written are handed on: from then on they stay as they are -/
def msIds0:AV→List Nat
 | .ms b _ _=>[b]
 | _=>[]
def msIds1:AV→List Nat
 | .agg cs=>cs.flatMap msIds0
 | v=>msIds0 v
def msIds2:AV→List Nat
 | .tup vs=>vs.flatMap msIds1
 | v=>msIds1 v
def frz1 (S:St) (b:Nat):Option St:=
 match S.boxes[b]? with
 | some (some [.tup [.bool true,.sl sz es .no]])=>some { S with boxes:=S.boxes.set b (some (frzC sz es)) }
 | some (some [.tup [.bool false,.sl _ _ .no]])=>some S
 | _=>none
def frzL (S:St):List Nat→Option St
 | []=>some S
 | b :: l =>
  match frz1 S b with
  | some S'=>frzL S' l
  | none=>none
def res0 (S:St):AV→Option AV
 | .ms b _ n =>
  match S.boxes[b]? with
  | some (some [.tup [.bool false,.sl sz es .no]])=>if es.length = n then some (.sl sz es .no) else none
  | _=>none
 | v=>some v
def resL (f:AV→Option AV):List AV→Option (List AV)
 | []=>some []
 | v :: l =>
  match f v with
  | some u =>
   match resL f l with
   | some us=>some (u :: us)
   | none=>none
  | none=>none
def res1 (S:St):AV→Option AV
 | .agg cs=>(resL (res0 S) cs).map .agg
 | v=>res0 S v
def res2 (S:St):AV→Option AV
 | .tup vs=>(resL (res1 S) vs).map .tup
 | v=>res1 S v
def giveA (S:St) (v:AV):Option (AV × St):=
 match msIds2 v with
 | []=>some (v,S)
 | ids =>
  match frzL S ids with
  | some S'=>(res2 S' v).map (·,S')
  | none=>none
def callG (R:Callee) (C:ICallee) (S:St) (f:FuncId) (args:List AV):Option (AV × St):=
 match C f args S with
 | some r=>some r
 | none=>if (args.map AV.strip1).all AV.closed1 then callA R S f args else none
def newBox (S:St) (bid:Nat) (cs:List AV):Option (AV × St):=
 match S.boxes[bid]? with
 | some none=>some (.ptr bid 0,{ S with boxes:=S.boxes.set bid (some cs) })
 | _=>none
def decodeL (l:List UInt8) (p:Nat):Nat × Nat:=Utf8.decode ⟨l.toArray⟩ p
def rangeA (P:Program) (S:St) (bid:Nat) (t:TypeId) (x:AV):Option (AV × St):=
 match P.underlying t,x with
 | some .string,.str l=>newBox S bid [.tup [.str l,.int .i64 0]]
 | _,_=>none
def nextA (S:St) (it:AV) (isString:Bool):Option (AV × St):=
 match it,isString with
 | .ptr b 0,true =>
  match S.boxes[b]? with
  | some (some [.tup [.str l,.int .i64 p]]) =>
   if p.toNat < l.length then some (.tup [.bool true,.int .i64 p,.int .i32 (decodeL l p.toNat).1],{ S with boxes:=S.boxes.set b (some [.tup [.str l,.int .i64 (p.toNat + (decodeL l p.toNat).2:Nat)]]) })
   else some (.tup [.bool false],S)
  | _=>none
 | _,_=>none
def mapC (t:TypeId) (n:Int) (es:List AV):List AV:=[.tup [.int .i64 t,.int .i64 n,.tup es]]
def mapAt (S:St) (x:AV):Option (Nat × TypeId × Int × List AV):=
 match x with
 | .mp b =>
  match S.boxes[b]? with
  | some (some [.tup [.int .i64 t,.int .i64 n,.tup es]])=>some (b,t.toNat,n,es)
  | _=>none
 | _=>none
def makeMapA (P:Program) (S:St) (bid:Nat) (t:TypeId):Option (AV × St):=
 if (keyKind P t).isSome then
  match S.boxes[bid]? with
  | some none=>some (.mp bid,{ S with boxes:=S.boxes.set bid (some (mapC t 0 [])) })
  | _=>none
 else none
def lookupA (P:Program) (S:St) (t:TypeId) (x k:AV) (ok:Bool):Option AV:=
 match mapAt S x,keyKind P t with
 | some (_,t',_,es),some (kt,et) =>
  match zeroA P et with
  | some z =>
   if t' = t∧(keyL P kt k).isSome∧(valD (absV z)).isSome then
    some (if ok then .tup [(lookM es k).getD (absV z),.bool (lookM es k).isSome] else (lookM es k).getD (absV z))
   else none
  | none=>none
 | _,_=>none
def updateA (P:Program) (S:St) (t:TypeId) (x k v:AV):Option St:=
 match mapAt S x,keyKind P t with
 | some (b,t',n,es),some (kt,_) =>
  if t' = t∧(keyL P kt k).isSome∧(valD v).isSome∧0≤n∧n < roomA then some { S with boxes:=S.boxes.set b (some (mapC t (n + 1) (keptPutM es k v))) } else none
 | _,_=>none
def deleteA (P:Program) (S:St) (t:TypeId) (x k:AV):Option St:=
 match mapAt S x,keyKind P t with
 | some (b,t',n,es),some (kt,_) =>
  if t' = t∧(keyL P kt k).isSome then some { S with boxes:=S.boxes.set b (some (mapC t n (keptDelM es k))) } else none
 | _,_=>none
def opA (P:Program) (R:Callee) (C:ICallee) (ρ:Operand→AV) (bid:Nat) (S:St):Op→Option (AV × St)
 | .move x | .assign x=>some (ρ x,S)
 | .pick c a b =>
  match ρ c with
  | .bool t=>some (if t then ρ a else ρ b,S)
  | _=>none
 | .alloc t =>
  match zeroA P t with
  | some z=>if z.cells.toList.all (·.oneCell') && isRow (z.cells.toList.map absV0) then newBox S bid (z.cells.toList.map absV0) else none
  | none=>none
 | .box _ x=>if (ρ x).plain && isRow (ρ x).cells then newBox S bid (ρ x).cells else none
 | .build t parts=>(buildA P t (parts.toList.map fun p=>(p.1,ρ p.2))).map (·,S)
 | .buildSlice t n parts=>(buildSliceA P t n (parts.toList.map fun p=>(p.1,ρ p.2))).map (·,S)
 | .load t a=>(loadA P S t (ρ a)).map (·,S)
 | .store t a x=>(storeA P S t (ρ a) (ρ x)).map (.tup [],·)
 | .nilCheck x =>
  match ρ x with
  | .ptr b o=>some (.ptr b o,S)
  | .elt sz es i j=>some (.elt sz es i j,S)
  | .mel b sz i j=>some (.mel b sz i j,S)
  | .fn f cap=>some (.fn f cap,S)
  | _=>none
 | .binOp op t x y _=>(binA P op t (isK x || isK y) (ρ x) (ρ y)).map (·,S)
 | .makeFunc fn first captured =>
  match fn,first.toList with
  | .func f,[]=>some (.fn f (captured.toList.map ρ),S)
  | _,_=>none
 | .unOp op _ x=>(unA op (ρ x)).map (·,S)
 | .convert src dst x=>(convertA P src dst (ρ x)).map (·,S)
 | .slice t x lo hi mx=>(sliceA P t (ρ x) (lo.map ρ) (hi.map ρ) (mx.map ρ)).map (·,S)
 | .fieldAddr s x f=>(fieldAddrA P s f (ρ x)).map (·,S)
 | .indexAddr t x i=>(indexAddrA P t (ρ x) (ρ i)).map (·,S)
 | .index t x i=>(indexA P t (ρ x) (ρ i)).map (·,S)
 | .extract t i =>
  match ρ t with
  | .tup vs=>(vs[i]?).map (·,S)
  | _=>none
 | .makeSlice t l c=>makeSliceA P S t (ρ l) (ρ c)
 | .call c =>
  match c.callee with
  | .builtin .len =>
   match c.argTypes.toList,c.args.toList with
   | [t],[x]=>(lenA P t (ρ x)).map (·,S)
   | _,_=>none
  | .builtin .max =>
   match c.args.toList with
   | [x,y]=>(maxA (ρ x) (ρ y)).map (·,S)
   | _=>none
  | .builtin .min =>
   match c.args.toList with
   | [x,y]=>(minA (ρ x) (ρ y)).map (·,S)
   | _=>none
  | .builtin .append =>
   match c.argTypes.toList,c.args.toList with
   | [t,tx],[x,y]=>appendA P S t tx (ρ x) (ρ y)
   | _,_=>none
  | .builtin .delete =>
   match c.argTypes.toList,c.args.toList with
   | [t,t2],[x,y]=>if (keyKind P t).map (·.1) = some t2 then (deleteA P S t (ρ x) (ρ y)).map (.tup [],·) else none
   | _,_=>none
  | .builtin .clear =>
   match c.argTypes.toList,c.args.toList with
   | [t],[x]=>(clearA P S t (ρ x)).map (.tup [],·)
   | _,_=>none
  | .builtin .copy =>
   match c.argTypes.toList,c.args.toList with
   | [t,_],[x,y]=>copyA P S t (ρ x) (ρ y)
   | _,_=>none
  | .value f =>
   match ρ f with
   | .fn g cap=>callG R C S g (c.args.toList.map ρ ++ cap)
   | _=>none
  | _=>none
 | .makeMap t r=>if r.isNone then makeMapA P S bid t else none
 | .lookup t x k ok=>(lookupA P S t (ρ x) (ρ k) ok).map (·,S)
 | .mapUpdate t x k v=>(updateA P S t (ρ x) (ρ k) (ρ v)).map (.tup [],·)
 | .range t x=>rangeA P S bid t (ρ x)
 | .next it s=>nextA S (ρ it) s
 | _=>none
def GlobOk (G:Glob) (E:Env) (w:World):Prop:=∀ g e,G g = some e→e.closed1 = true∧Rep E w (.elt e.cells.length [e] 0 0) (.pointer (some ⟨g,0,none⟩))∧E.I g e.cells.length∧w.cell? ⟨g,e.cells.length,none⟩ = none
theorem GlobOk.le {G:Glob} {E E':Env} {w w':World} (h:GlobOk G E w) (hl:Env.Le E E' w w'):GlobOk G E' w':=fun g e hg=>⟨(h g e hg).1,(h g e hg).2.1.le hl,(hl.I _ _ (h g e hg).2.2.1).1,(hl.I _ _ (h g e hg).2.2.1).2.trans (h g e hg).2.2.2⟩
inductive BoxAt (P:Program) (E:Env) (w:World) (blk:Nat) (cs:List AV):Prop
 | row (arr:Array Value) (ty:TypeId) (hr:isRow cs = true) (hh:w.heap[blk]? = some (.cells arr ty (0,0))) (hn:arr.size = cs.length)
   (hc:∀ (i:Nat) (c:AV) (v:Value),cs[i]? = some c→arr[i]? = some v→Rep E w c v∧v.oneCell' = true)
 | iter (s:ByteArray) (pos:Nat) (hcs:cs = [.tup [.str s.data.toList,.int .i64 pos]]) (hh:w.heap[blk]? = some (.stringIter s pos))
 | map (t n:Nat) (es:List AV) (k e:TypeId) (D:DataW Unit) (hcs:cs = mapC t n es) (hk:keyKind P t = some (k,e)) (hg:GoodM P k es) (hD:MapRel P k es D) (ho:w.ownsMap P k rdE blk n D)
 | own (sz:Nat) (es:List AV) (f:Bool) (arr:Array Value) (ty:TypeId) (hcs:cs = [.tup [.bool f,.sl sz es .no]]) (hh:w.heap[blk]? = some (.cells arr ty (0,0))) (hsz:∀ e ∈ es,e.cells.length = sz) (hcl:∀ e ∈ es,e.closed1 = true)
   (hc:∀ (i:Nat) (e:AV) (j:Nat) (c:AV),es[i]? = some e→e.cells[j]? = some c→∃ v,arr[i * sz + j]? = some v∧Rep E w c v∧v.oneCell' = true)
   (hf:f = false→∀ (i:Nat) (e:AV) (j:Nat) (c:AV),es[i]? = some e→e.cells[j]? = some c→E.I blk (i * sz + j))
 | dead (hcs:cs = deadC)
theorem BoxAt.le {P:Program} {E E':Env} {w w':World} {blk:Nat} {cs:List AV} (h:BoxAt P E w blk cs) (hw:w'.heap[blk]? = w.heap[blk]?) (hl:Env.Le E E' w w'):BoxAt P E' w' blk cs:=by
 cases h with
 | row arr ty hr hh hn hc=>exact .row arr ty hr (hw.trans hh) hn fun i c v hi hv=>⟨(hc i c v hi hv).1.le hl,(hc i c v hi hv).2⟩
 | iter s pos hcs hh=>exact .iter s pos hcs (hw.trans hh)
 | map t n es k e D hcs hk hg hD ho =>
  refine .map t n es k e D hcs hk hg hD ?_
  obtain ⟨ms,clock,hb,r⟩:=ho
  exact ⟨ms,clock,hw.trans hb,r⟩
 | own sz es f arr ty hcs hh hsz hcl hc hf =>
  exact .own sz es f arr ty hcs (hw.trans hh) hsz hcl (fun i e j c hi hj=>by
   obtain ⟨v,h1,h2,h3⟩:=hc i e j c hi hj
   exact ⟨v,h1,h2.le hl,h3⟩) fun e i e' j c hi hj=>(hl.I _ _ (hf e i e' j c hi hj)).1
 | dead hcs=>exact .dead hcs
theorem BoxAt.cells {P:Program} {E:Env} {w:World} {blk:Nat} {cs:List AV} (h:BoxAt P E w blk cs) (hr:isRow cs = true):∃ arr ty,w.heap[blk]? = some (.cells arr ty (0,0))∧arr.size = cs.length ∧
  ∀ (i:Nat) (c:AV) (v:Value),cs[i]? = some c→arr[i]? = some v→Rep E w c v∧v.oneCell' = true:=by
 cases h with
 | row arr ty _ hh hn hc=>exact ⟨arr,ty,hh,hn,hc⟩
 | iter s pos hcs _=>subst hcs; simp [isRow] at hr
 | map t n es k e D hcs=>subst hcs; simp [isRow,mapC] at hr
 | own sz es f arr ty hcs=>subst hcs; simp [isRow] at hr
 | dead hcs=>subst hcs; simp [isRow] at hr
theorem BoxAt.own_cells {P:Program} {E:Env} {w:World} {blk sz:Nat} {es:List AV} {f:Bool} (h:BoxAt P E w blk [.tup [.bool f,.sl sz es .no]]) :
  ∃ arr:Array Value,(∃ ty,w.heap[blk]? = some (.cells arr ty (0,0)))∧∀ (i:Nat) (e:AV) (j:Nat) (c:AV),es[i]? = some e→e.cells[j]? = some c→∃ v,arr[i * sz + j]? = some v∧Rep E w c v∧v.oneCell' = true:=by
 cases h with
 | row arr ty hr=>simp [isRow] at hr
 | iter s pos hcs=>simp at hcs
 | map t n es k e D hcs=>simp [mapC] at hcs
 | dead hcs=>simp at hcs
 | own sz' es' f' arr ty hcs hh hsz hcl hc hf =>
  simp only [List.cons.injEq,AV.tup.injEq,AV.bool.injEq,AV.sl.injEq,and_true] at hcs
  obtain ⟨rfl,rfl,rfl⟩:=hcs
  exact ⟨arr,⟨ty,hh⟩,hc⟩
def Frz (S:St) (id:Nat):Prop:=∃ cs,S.boxes[id]? = some (some cs)∧(cs = deadC∨∃ sz es,cs = frzC sz es)
theorem Frz.row {S:St} {id:Nat} (h:Frz S id) {cs:List AV} (hb:S.boxes[id]? = some (some cs)):cs = deadC∨∃ sz es,cs = frzC sz es:=by
 obtain ⟨ds,h,hd⟩:=h
 rw [hb] at h
 simp only [Option.some.injEq] at h
 rw [h]; exact hd
theorem Frz.not_row {S:St} {id:Nat} {cs:List AV} (hb:S.boxes[id]? = some (some cs)) (hr:isRow cs = true):¬ Frz S id:=fun h=>by
 rcases h.row hb with rfl | ⟨sz,es,rfl⟩ <;> simp [isRow] at hr
theorem Frz.set {S:St} {id id':Nat} {x:Option (List AV)} (h:Frz S id) (hne:id' ≠ id):Frz { S with boxes:=S.boxes.set id' x } id:=by
 obtain ⟨cs,h,hd⟩:=h
 exact ⟨cs,by simp only [List.getElem?_set,if_neg hne]; exact h,hd⟩
structure BelowQ (Q:Nat→Prop) (w w':World):Prop where
 os:w'.os = w.os
 tape:w'.tape = w.tape
 output:w'.output = w.output
 size:w.heap.size≤w'.heap.size
 block:∀ k,Q k→w'.heap[k]? = w.heap[k]?
theorem BelowQ.refl (Q:Nat→Prop) (w:World):BelowQ Q w w:=⟨rfl,rfl,rfl,Nat.le_refl _,fun _ _=>rfl⟩
theorem BelowQ.trans {Q:Nat→Prop} {a b c:World} (h:BelowQ Q a b) (k:BelowQ Q b c):BelowQ Q a c:=
 ⟨k.os.trans h.os,k.tape.trans h.tape,k.output.trans h.output,Nat.le_trans h.size k.size,fun i hi=>(k.block i hi).trans (h.block i hi)⟩
theorem Below.toQ {B:Nat} {Q:Nat→Prop} {w w':World} (h:Below B w w') (hq:∀ k,Q k→k < B):BelowQ Q w w':=⟨h.os,h.tape,h.output,h.size,fun k hk=>h.block k (hq k hk)⟩
theorem BelowQ.mono {Q Q':Nat→Prop} {w w':World} (h:BelowQ Q w w') (hq:∀ k,Q' k→Q k):BelowQ Q' w w':=⟨h.os,h.tape,h.output,h.size,fun k hk=>h.block k (hq k hk)⟩
theorem BelowQ.below {B:Nat} {w w':World} (h:BelowQ (· < B) w w'):Below B w w':=⟨h.os,h.tape,h.output,h.size,h.block⟩
def ownsQ (w:World) (Q:Nat→Prop) (e:TypeId) (sz:Nat) (v:Value) (n:Nat) (xs:List Value):Prop:=w.ownsRow 0 e sz v n xs∧∀ g,v.ownBlock = some g→¬ Q g
theorem ownsQ.lt {w:World} {Q:Nat→Prop} {e:TypeId} {sz n:Nat} {v:Value} {xs:List Value} (h:ownsQ w Q e sz v n xs):∀ k,v.ownBlock = some k→¬ Q k∧k < w.heap.size:=fun k hk=>⟨h.2 k hk,(h.1.lt k hk).2⟩
theorem ownsQ.kept {w w':World} {Q:Nat→Prop} {e:TypeId} {sz n:Nat} {v:Value} {xs:List Value} {row:Option Nat} (h:ownsQ w Q e sz v n xs) (hg:w.grownBy w' row) (hne:v.ownBlock = none∨v.ownBlock ≠ row):ownsQ w' Q e sz v n xs:=⟨h.1.kept hg hne,h.2⟩
theorem ownsQ.alloc {w:World} {Q:Nat→Prop} {e:TypeId} {sz n:Nat} {v:Value} {xs:List Value} (h:ownsQ w Q e sz v n xs) (o:Obj):ownsQ (w.alloc o) Q e sz v n xs:=⟨h.1.alloc o,h.2⟩
theorem ownsQ.row {w:World} {B:Nat} {e:TypeId} {sz n:Nat} {v:Value} {xs:List Value} (h:ownsQ w (· < B) e sz v n xs):w.ownsRow B e sz v n xs:=by
 obtain ⟨⟨h1,h2⟩,h3⟩:=h
 refine ⟨h1,h2.elim .inl fun ⟨g,cap,cur,hv,_,r⟩=>.inr ⟨g,cap,cur,hv,?_,r⟩⟩
 have:=h3 g (by rw [hv]; rfl)
 simp only [Nat.not_lt] at this
 exact this
theorem ownsRow_base {w:World} {B B':Nat} {e:TypeId} {sz n:Nat} {v:Value} {xs:List Value} (h:w.ownsRow B e sz v n xs) (hB:∀ g,v.ownBlock = some g→B'≤g):w.ownsRow B' e sz v n xs:=by
 obtain ⟨h1,h2⟩:=h
 exact ⟨h1,h2.elim .inl fun ⟨g,cap,cur,hv,_,r⟩=>.inr ⟨g,cap,cur,hv,hB g (by rw [hv]; rfl),r⟩⟩
theorem ownsQ_of {w:World} {B:Nat} {Q:Nat→Prop} {e:TypeId} {sz n:Nat} {v:Value} {xs:List Value} (h:w.ownsRow B e sz v n xs) (hq:∀ k,Q k→k < B):ownsQ w Q e sz v n xs:=
 ⟨ownsRow_base h fun _ _=>Nat.zero_le _,fun g hg hQ=>by have:=(h.lt g hg).1; have:=hq g hQ; omega⟩
structure SR (P:Program) (G:Glob) (N0:Nat→Prop) (w0:World) (I0:Nat→Nat→Prop) (S:St) (E:Env) (w:World):Prop where
 below:BelowQ N0 w0 w
 n0:∀ b,N0 b→b < w.heap.size
 Ilt:∀ b o,E.I b o→b < w.heap.size
 Iold:∀ b o,E.I b o→N0 b→I0 b o
 Blt:∀ id b,E.B id = some b→id < S.boxes.length∧¬ N0 b∧b < w.heap.size∧∀ o,E.I b o→Frz S id
 Binj:∀ id id' b,E.B id = some b→E.B id' = some b→id = id'
 box:∀ id cs,S.boxes[id]? = some (some cs)→∃ blk,E.B id = some blk∧BoxAt P E w blk cs
 glob:GlobOk G E w
 hole:∀ id,S.boxes[id]? = some none→E.B id = none
 Klt:∀ t n v,E.K t n v→∃ m e,S.live[t]? = some (m,e)∧n≤m
 Kblk:∀ t n v,E.K t n v→∀ g,v.ownBlock = some g→g < w.heap.size
 live:∀ t n e,S.live[t]? = some (n,e)→∃ v xs sz,sizeA P e = some sz∧ownsQ w N0 e sz v n xs∧(∀ v',E.K t n v'→v' = v)∧E.K t n v ∧
  ∀ g,v.ownBlock = some g→(∀ o,E.I g o→o < n * sz)∧(∀ id,E.B id ≠ some g)∧∀ t' n' v',E.K t' n' v'→v'.ownBlock = some g→t' = t
theorem SR.Kb {P:Program} {G:Glob} {N0:Nat→Prop} {w0:World} {I0:Nat→Nat→Prop} {S:St} {E:Env} {w:World} (h:SR P G N0 w0 I0 S E w) {t n:Nat} {v:Value} {g:Nat} (hk:E.K t n v) (hg:v.ownBlock = some g):g < w.heap.size:=h.Kblk t n v hk g hg
def TR (E:Env) (w:World) (T:List AV) (tm:Array Value):Prop:=
 T.length = tm.size∧∀ (i:Nat) (c:AV) (v:Value),T[i]? = some c→tm[i]? = some v→Rep E w c v
section
variable {P : Program} {E E' : Env} {w w' : World}
theorem TR.le {T:List AV} {tm:Array Value} (h:TR E w T tm) (hl:Env.Le E E' w w'):TR E' w' T tm:=⟨h.1,fun i c v h1 h2=>(h.2 i c v h1 h2).le hl⟩
theorem rep_undef:Rep E w (.tup []) undef:=.tup [] #[] rfl fun i c v h=>by simp at h
theorem TR.get {T:List AV} {tm:Array Value} (h:TR E w T tm) (i:Nat):Rep E w (T.getD i (.tup [])) (tm.getD i undef):=by
 by_cases hi:i < T.length
 ·have hi':i < tm.size:=h.1 ▸ hi
  have:=h.2 i T[i] tm[i] (List.getElem?_eq_getElem hi) (Array.getElem?_eq_getElem hi')
  simpa [hi,hi'] using this
 ·have hi':¬ i < tm.size:=h.1 ▸ hi
  rw [List.getD_eq_getElem?_getD,List.getElem?_eq_none (by omega)]
  simp only [Array.getD,hi',dif_neg,not_false_eq_true]
  exact rep_undef
theorem TR.put {T:List AV} {a:Act} (h:TR E w T a.tmps) (d:Option Tmp) {r:AV} {v:Value} (hr:Rep E w r v):TR E w (match d with | some d=>T.set d r | none=>T) (a.put d v).tmps:=by
 cases d with
 | none=>exact h
 | some d =>
  refine ⟨by simp [Act.put,h.1],fun i c u h1 h2=>?_⟩
  simp only [Act.put] at h2
  rw [List.getElem?_set] at h1
  rw [Array.getElem?_setIfInBounds] at h2
  by_cases e:d = i
  ·subst e
   by_cases hd:d < T.length
   ·have hd':d < a.tmps.size:=h.1 ▸ hd
    simp [hd] at h1
    simp [hd'] at h2
    subst h1; subst h2; exact hr
   ·simp [hd] at h1
  ·simp [e] at h1 h2
   exact h.2 i c u h1 h2
theorem litOk_one {v:Value} (h:litOk v = true):v.oneCell' = true:=by
 cases v <;> simp_all [litOk,Value.oneCell']
theorem Rep.one {a:AV} {v:Value} (h:Rep E w a v) (hp:a.plain = true) (ha:∀ cs,a ≠ .agg cs):v.oneCell' = true:=by
 cases h <;> simp_all [AV.plain,Value.oneCell'] <;> first | rfl | exact litOk_one ‹_›
theorem Rep.cells {a:AV} {v:Value} (h:Rep E w a v) (hp:a.plain = true):v.cells.size = a.cells.length ∧
  (∀ (i:Nat) (c:AV) (u:Value),a.cells[i]? = some c→v.cells[i]? = some u→Rep E w c u∧u.oneCell' = true):=by
 by_cases ha:∃ cs,a = .agg cs
 ·obtain ⟨cs,rfl⟩:=ha
  cases h with
  | agg _ vs hn h1 h=>exact ⟨hn,fun i c u hc hu=>⟨h i c u hc hu,h1 i u hu⟩⟩
 ·have ha':∀ cs,a ≠ .agg cs:=fun cs e=>ha ⟨cs,e⟩
  have h1:=h.one hp ha'
  have e1:a.cells = [a]:=by cases a <;> simp_all [AV.cells]
  have e2:v.cells = #[v]:=by cases v <;> simp_all [Value.cells,Value.oneCell']
  rw [e1,e2]
  refine ⟨rfl,fun i c u hc hu=>?_⟩
  match i,hc,hu with
  | 0,hc,hu=>simp at hc hu; subst hc; subst hu; exact ⟨h,h1⟩
  | i + 1,hc,hu=>simp at hc
theorem absV0_rep (v:Value):Rep E w (absV0 v) v:=by
 unfold absV0
 split
 ·exact .bool _
 ·exact .int _ _
 ·exact .str _ _ rfl
 ·exact .sl 0 [] .nil none 0 (fun _ _=>.bool false) (Nat.le_refl _) (by simp [maxLen]) (.inl rfl) (by simp) (by simp) rfl (by simp) (by simp [Value.oneCell'])
 ·exact .lit _ rfl
 ·exact .lit _ rfl
 ·exact .lit _ rfl
 ·exact .lit _ rfl
 ·exact .junk _
theorem absV0_map {l:List Value} {i:Nat} {c:AV} {u:Value} (hc:(l.map absV0)[i]? = some c) (hu:l[i]? = some u):Rep E w c u:=by
 rw [List.getElem?_map,hu] at hc
 simp at hc
 subst hc
 exact absV0_rep u
theorem absV_rep (v:Value):Rep E w (absV v) v:=by
 unfold absV
 split
 ·rename_i cs
  split
  ·rename_i h
   refine .agg _ _ (by simp) (fun i v hv=>?_) (fun i c u hc hu=>absV0_map hc (by simpa using hu))
   rw [List.all_eq_true] at h
   exact h v (by simpa using Array.mem_of_getElem? hv)
  ·exact .junk _
 ·rename_i vs
  split
  ·rename_i h
   obtain rfl:vs = #[]:=by simpa using h
   exact rep_undef
  ·exact .junk _
 ·exact absV0_rep _
theorem evA_rep {G:Glob} (hG:GlobOk G E w) {T:List AV} {a:Act} (h:TR E w T a.tmps) (x:Operand):Rep E w (evA G T x) (a.eval x):=by
 cases x with
 | tmp t=>exact h.get t
 | const v=>exact absV_rep v
 | global g =>
  simp only [evA]
  split
  ·rename_i e he
   exact (hG g e he).2.1
  ·exact .junk _
 | func f=>exact .fn f [] #[] rfl fun i c v h=>by simp at h
theorem wp_value {o:Oper} {a:Act} {K:Act→World→Prop} {Q:Exit→Act→World→Prop} {v:Value} (h:(execOp a.eval o).run P w = .ok (.value v) w') (hk:K (a.put o.dst v) w'):o.wp P a w K Q:=by
 unfold Oper.wp; rw [h]; exact hk
theorem wp_skip' {o:Oper} {a:Act} {K:Act→World→Prop} {Q:Exit→Act→World→Prop} (h:(execOp a.eval o).run P w = .ok .skip w') (hk:K (a.put o.dst undef) w'):o.wp P a w K Q:=by
 unfold Oper.wp; rw [h]; exact hk
theorem run_isAgg {t:TypeId} {b:Bool} (h:aggA P t = some b) (w:World):(isAgg t).run P w = .ok b w:=by
 unfold aggA at h
 cases hu:P.underlying t with
 | none=>simp [hu] at h
 | some d =>
  simp [hu] at h
  subst h
  cases d <;> simp [isAgg,run_underlying hu]
theorem run_sizeOf' {t:TypeId} {s:Nat} (h:sizeA P t = some s) (w:World):(sizeOf t).run P w = .ok s w:=by
 unfold sizeA at h
 cases hi:P.info? t with
 | none=>simp [hi] at h
 | some i =>
  simp [hi] at h
  subst h
  simp [sizeOf,typeInfo,hi]
theorem run_zero {t:TypeId} {z:Value} (h:zeroA P t = some z) (w:World):(zeroValue t).run P w = .ok z w:=by
 unfold zeroA at h
 cases hi:P.info? t with
 | none=>simp [hi] at h
 | some i =>
  simp [hi] at h
  simp [zeroValue,typeInfo,hi,h]
end
section
variable {P : Program} {E : Env} {w : World}
theorem intA_run {op:BinOp} {t:TypeId} {k:IntKind} {a b:Int} {r:AV} (h:intA op k a b = some r) (h1:op ≠ .shl) (h2:op ≠ .shr) :
    ∃ v,(binOp op t (.int k a) (.int k b)).run P w = .ok v w∧Rep E w r v:=by
  cases op <;> first
    | (simp only [intA,bitsA,cmpA,Option.some.injEq] at h; subst h; refine ⟨_,?_,by constructor⟩; simp [binOp,Op.intArith,Op.intBits,Op.intCmp]; done)
    | (simp only [intA] at h
       split at h
       · cases h
       · rename_i h0
         simp only [Option.some.injEq] at h; subst h; refine ⟨_,?_,by constructor⟩; simp [binOp,Op.intDiv,h0]; done)
    | (exact absurd rfl h1)
    | (exact absurd rfl h2)
theorem shiftA_run {op:BinOp} {t:TypeId} {k k':IntKind} {a b:Int} {r:AV} (h:shiftA op k a b = some r) :
  ∃ v,(binOp op t (.int k a) (.int k' b)).run P w = .ok v w∧Rep E w r v:=by
 unfold shiftA at h
 split at h
 ·cases h
 ·rename_i hb
  cases op <;> first
   | (simp only [Option.some.injEq] at h; subst h; refine ⟨_,?_,by constructor⟩; simp [binOp,Op.shift,hb]; done)
   | (simp at h; done)
theorem toList_data (s:ByteArray):s.toList = s.data.toList:=ByteArray.toList_eq s
theorem size_data (s:ByteArray):s.size = s.data.toList.length:=(Array.length_toList (xs:=s.data)).symm
theorem strA_run {op:BinOp} {t:TypeId} {a b:ByteArray} {r:AV} (h:strA op a.data.toList b.data.toList = some r) :
    ∃ v,(binOp op t (.string a) (.string b)).run P w = .ok v w∧Rep E w r v:=by
  cases op <;> first
    | (simp only [strA,Option.some.injEq] at h; subst h; refine ⟨_,?_,by constructor⟩; simp only [binOp,Op.stringOp,toList_data]; rfl)
    | (simp only [strA] at h
       split at h
       · rename_i h0
         simp only [Option.some.injEq] at h; subst h
         refine ⟨.string (a ++ b),?_,.str _ _ (by simp [ByteArray.data_append])⟩
         have h1:¬ ((9223372036854775807:Int) < (a.size + b.size:Nat)):=by rw [size_data,size_data]; omega
         simp only [binOp,Op.stringOp,gt_iff_lt,show IntKind.i64.max = 9223372036854775807 from rfl,h1,if_false]; rfl
       · cases h)
    | (simp [strA] at h; done)
theorem eqScalA_run {D:Nat} {t:TypeId} {x y:AV} {vx vy:Value} {b:Bool} (h:eqScalA P t x y = some b) (hx:Rep E w x vx) (hy:Rep E w y vy) :
  (Op.equalIn (D + 1) t vx vy).run P w = .ok b w:=by
 unfold eqScalA at h
 split at h
 ·split at h
  ·rename_i hu
   simp at h; subst h
   cases hx; cases hy
   exact run_equalIn_bool' w D t _ _ hu
  ·cases h
 ·split at h
  ·rename_i hu
   split at h
   ·rename_i hk
    simp at h; subst h
    cases hx; cases hy
    subst hk
    exact run_equalIn_int w D t _ _ _ _ hu
   ·cases h
  ·cases h
 ·split at h
  ·rename_i hu
   simp at h; subst h
   cases hx with | str _ s hs=>cases hy with | str _ s' hs' =>
   subst hs; subst hs'
   rw [run_equalIn_string w D t s s' hu,toList_data,toList_data]
  ·cases h
 ·cases h
theorem part_rep {t:TypeId} {cs:List AV} {vs:Array Value} {off:Nat} {x:AV} (h:subA P t cs off = some x) (hr:Rep E w (.agg cs) (.agg vs)) :
  ∃ v,(part t vs off).run P w = .ok v w∧Rep E w x v:=by
 cases hr with | agg _ _ hn h1 hc =>
 unfold subA at h
 split at h
 ·rename_i ha
  cases hs:sizeA P t with
  | none=>simp [hs] at h
  | some s =>
   simp [hs] at h; subst h
   refine ⟨.agg (vs.extract off (off + s)),?_,?_⟩
   ·simp [part,run_isAgg ha,run_sizeOf' hs]
   ·refine .agg _ _ (by simp [Array.size_extract]; omega) (fun i v hv=>?_) (fun i c v hi hv=>?_)
    ·rw [Array.getElem?_extract] at hv
     split at hv
     ·exact h1 _ _ hv
     ·cases hv
    ·rw [Array.getElem?_extract] at hv
     split at hv
     ·rw [List.getElem?_take] at hi
      split at hi
      ·rw [List.getElem?_drop] at hi
       exact hc _ _ _ hi hv
      ·cases hi
     ·cases hv
 ·rename_i ha
  have hlt:off < vs.size:=by
   have:=(List.getElem?_eq_some_iff.1 h).1
   omega
  refine ⟨vs[off],?_,hc off x _ h (Array.getElem?_eq_getElem hlt)⟩
  simp [part,run_isAgg ha,Array.getElem?_eq_getElem hlt]
 ·cases h
theorem eqA_run:∀ (d:Nat),
  (∀ (D:Nat) (t:TypeId) (x y:AV) (vx vy:Value) (b:Bool),d≤D→eqA P d t x y = some b→Rep E w x vx→Rep E w y vy→(Op.equalIn D t vx vy).run P w = .ok b w) ∧
  (∀ (D:Nat) (xs ys:List AV) (vx vy:Array Value) (fs:List Field) (b:Bool),d≤D→eqFieldsA P d xs ys fs = some b→Rep E w (.agg xs) (.agg vx)→Rep E w (.agg ys) (.agg vy)→(Op.eqFields D vx vy fs).run P w = .ok b w):=by
 intro d
 induction d with
 | zero =>
  refine ⟨fun D t x y vx vy b _ h=>by simp [eqA] at h,fun D xs ys vx vy fs b _ h=>?_⟩
  cases fs with
  | nil=>simp [eqFieldsA] at h; subst h; intros; rfl
  | cons f fs=>simp [eqFieldsA] at h
 | succ d ih =>
  have first:∀ (D:Nat) (t:TypeId) (x y:AV) (vx vy:Value) (b:Bool),d + 1≤D→eqA P (d + 1) t x y = some b→Rep E w x vx→Rep E w y vy→(Op.equalIn D t vx vy).run P w = .ok b w:=by
   intro D t x y vx vy b hD h hx hy
   obtain ⟨D,rfl⟩:∃ D',D = D' + 1:=⟨D - 1,by omega⟩
   by_cases ha:∃ xs ys,x = .agg xs∧y = .agg ys
   ·obtain ⟨xs,ys,rfl,rfl⟩:=ha
    simp only [eqA] at h
    split at h
    ·rename_i fs hu
     split at h
     ·cases h
     ·rename_i hp
      cases hx with | agg _ vx hn h1 hc=>cases hy with | agg _ vy hn' h1' hc' =>
      have hf:P.fieldsOf t = fs:=by simp [Program.fieldsOf,hu]
      rw [run_equalIn_struct w D t vx vy (by rw [hf]; exact hu) (by simpa using hp),hf]
      exact ih.2 D xs ys vx vy fs.toList b (by omega) h (.agg _ _ hn h1 hc) (.agg _ _ hn' h1' hc')
    ·cases h
   ·have h':eqScalA P t x y = some b:=by
     unfold eqA at h
     split at h
     ·contradiction
     ·exact absurd ⟨_,_,rfl,rfl⟩ ha
     ·exact h
    exact eqScalA_run h' hx hy
  refine ⟨first,fun D xs ys vx vy fs=>?_⟩
  induction fs with
  | nil=>intro b _ h; simp [eqFieldsA] at h; subst h; intros; rfl
  | cons f fs ihf =>
   intro b hD h hx hy
   simp only [eqFieldsA] at h
   split at h
   ·cases h
   ·rename_i hnm
    split at h
    ·rename_i x y hsx hsy
     obtain ⟨ux,hux,hrx⟩:=part_rep hsx hx
     obtain ⟨uy,huy,hry⟩:=part_rep hsy hy
     simp only [Op.eqFields,ne_eq,hnm,not_false_eq_true,if_true,Sem.run_bind,hux,huy,Result.andThen_ok]
     split at h
     ·rename_i he
      rw [ih.1 D f.type x y ux uy true (by omega) he hrx hry]
      simp only [Result.andThen_ok,Bool.not_true,Bool.false_eq_true,if_false]
      exact ih.2 D xs ys vx vy fs b (by omega) h hx hy
     ·rename_i he
      simp at h; subst h
      rw [ih.1 D f.type x y ux uy false (by omega) he hrx hry]
      simp
     ·cases h
    ·cases h
end
theorem add_plain (b o k:Nat):(⟨b,o,none⟩:Addr).add k = ⟨b,o + k,none⟩:=by
 unfold Addr.add; split <;> simp_all
section
variable {P : Program} {E : Env} {w : World}
theorem eqScalA_kind {t:TypeId} {x y:AV} {b:Bool} (h:eqScalA P t x y = some b):(∃ b,x = .bool b)∨(∃ k n,x = .int k n)∨∃ s,x = .str s:=by
 unfold eqScalA at h
 split at h
 ·exact .inl ⟨_,rfl⟩
 ·exact .inr (.inl ⟨_,_,rfl⟩)
 ·exact .inr (.inr ⟨_,rfl⟩)
 ·cases h
theorem guard_pure {op:BinOp} {t:TypeId} {ox oy:Operand} {x y:Value} (h:(∃ b,x = .bool b)∨(∃ k n,x = .int k n)∨∃ s,x = .string s):(eqGuard op t ox oy x y).run P w = .ok () w:=by
 rcases h with ⟨b,rfl⟩ | ⟨k,n,rfl⟩ | ⟨s,rfl⟩ <;> (unfold eqGuard; split <;> rfl)
theorem equalA_run {t:TypeId} {x y:AV} {vx vy:Value} {b:Bool} (h:equalA P t x y = some b) (hx:Rep E w x vx) (hy:Rep E w y vy) :
  (Op.equal t vx vy).run P w = .ok b w∧∀ op ox oy,(eqGuard op t ox oy vx vy).run P w = .ok () w:=by
 unfold equalA at h
 split at h
 ·split at h
  ·cases h
  ·rename_i hg
   refine ⟨(eqA_run eqDepth).1 Op.maxDepth _ _ _ _ _ _ (by decide) h hx hy,fun op ox oy=>?_⟩
   cases hx; cases hy
   cases op <;> simp [eqGuard,hg]
 ·rename_i ha
  refine ⟨(eqA_run eqDepth).1 Op.maxDepth _ _ _ _ _ _ (by decide) h hx hy,fun op ox oy=>guard_pure ?_⟩
  have h':eqScalA P t x y = some b:=by
   unfold eqA at h
   split at h
   ·contradiction
   ·exact (ha _ _ rfl rfl).elim
   ·exact h
  rcases eqScalA_kind h' with ⟨b,rfl⟩ | ⟨k,n,rfl⟩ | ⟨s,rfl⟩
  ·cases hx; exact .inl ⟨_,rfl⟩
  ·cases hx; exact .inr (.inl ⟨_,_,rfl⟩)
  ·cases hx; exact .inr (.inr ⟨_,rfl⟩)
theorem binOp_eql {t:TypeId} {x y:Value} {b:Bool} (h:(Op.equal t x y).run P w = .ok b w) (hi:∀ k n k' m,¬ (x = .int k n∧y = .int k' m)) (hs:∀ s s',¬ (x = .string s∧y = .string s')) :
  (∀ k n k' m,¬ (x = .float k n∧y = .float k' m))→(∀ k n m k' n' m',¬ (x = .complex k n m∧y = .complex k' n' m'))→(binOp .eql t x y).run P w = .ok (.bool b) w∧(binOp .neq t x y).run P w = .ok (.bool !b) w:=by
 intro hf hc
 constructor
 ·unfold binOp
  split <;> first | (rename_i h1 _ _; cases h1; done) | (exact absurd ⟨rfl,rfl⟩ (hi _ _ _ _)) | (exact absurd ⟨rfl,rfl⟩ (hs _ _)) | (exact absurd ⟨rfl,rfl⟩ (hf _ _ _ _)) | (exact absurd ⟨rfl,rfl⟩ (hc _ _ _ _ _ _)) | simp_all
 ·unfold binOp
  split <;> first | (rename_i h1 _ _; cases h1; done) | (exact absurd ⟨rfl,rfl⟩ (hi _ _ _ _)) | (exact absurd ⟨rfl,rfl⟩ (hs _ _)) | (exact absurd ⟨rfl,rfl⟩ (hf _ _ _ _)) | (exact absurd ⟨rfl,rfl⟩ (hc _ _ _ _ _ _)) | simp_all
theorem equalIn_nil {d:Nat} {t:TypeId} {ms:Array (String × TypeId)} (hu:P.underlying t = some (.interface ms)):(Op.equalIn (d + 1) t .nilIface .nilIface).run P w = .ok true w:=by
 simp only [Op.equalIn,Sem.run_bind,run_underlying hu,Result.andThen_ok,Sem.run_pure]
theorem equalIn_nil_l {d:Nat} {t ti:TypeId} {u:Value} {ms:Array (String × TypeId)} (hu:P.underlying t = some (.interface ms)):(Op.equalIn (d + 1) t .nilIface (.iface ti u)).run P w = .ok false w:=by
 simp only [Op.equalIn,Sem.run_bind,run_underlying hu,Result.andThen_ok,Sem.run_pure]
theorem equalIn_nil_r {d:Nat} {t ti:TypeId} {u:Value} {ms:Array (String × TypeId)} (hu:P.underlying t = some (.interface ms)):(Op.equalIn (d + 1) t (.iface ti u) .nilIface).run P w = .ok false w:=by
 simp only [Op.equalIn,Sem.run_bind,run_underlying hu,Result.andThen_ok,Sem.run_pure]
theorem equal_nil {t:TypeId} {ms:Array (String × TypeId)} (hu:P.underlying t = some (.interface ms)):(Op.equal t .nilIface .nilIface).run P w = .ok true w:=equalIn_nil (d:=9999) hu
theorem equal_nil_l {t ti:TypeId} {u:Value} {ms:Array (String × TypeId)} (hu:P.underlying t = some (.interface ms)):(Op.equal t .nilIface (.iface ti u)).run P w = .ok false w:=equalIn_nil_l (d:=9999) hu
theorem equal_nil_r {t ti:TypeId} {u:Value} {ms:Array (String × TypeId)} (hu:P.underlying t = some (.interface ms)):(Op.equal t (.iface ti u) .nilIface).run P w = .ok false w:=equalIn_nil_r (d:=9999) hu
theorem guard_nil {op:BinOp} {t:TypeId} {ox oy:Operand} (h:(isK ox || isK oy) = true):(eqGuard op t ox oy .nilIface .nilIface).run P w = .ok () w:=by
 cases op <;> cases ox <;> cases oy <;> first | (simp [isK] at h; done) | rfl | simp [eqGuard]
theorem rep_nilI {v:Value} (h:Rep E w (.lit .nilIface) v):v = .nilIface:=by cases h; rfl
theorem rep_ifc {v:Value} (h:Rep E w .ifc v):∃ t u,v = .iface t u:=by cases h; exact ⟨_,_,rfl⟩
theorem equalIn_slice_nil {d:Nat} {t e:TypeId} (hu:P.underlying t = some (.slice e)) (A:Option Addr) (n c:Nat):(Op.equalIn (d + 1) t (.slice A n c) (.slice none 0 0)).run P w = .ok A.isNone w:=by
 cases A <;> simp only [Op.equalIn,Sem.run_bind,run_underlying hu,Result.andThen_ok,Sem.run_pure] <;> rfl
theorem equal_slice_nil {t e:TypeId} (hu:P.underlying t = some (.slice e)) (A:Option Addr) (n c:Nat):(Op.equal t (.slice A n c) (.slice none 0 0)).run P w = .ok A.isNone w:=equalIn_slice_nil (d:=9999) hu A n c
theorem rep_nilsl {sz:Nat} {es:List AV} {v:Value} (h:Rep E w (.sl sz es .nil) v):v = .slice none 0 0:=by
 cases h with | sl _ _ _ A cap u hcap hmax hA hsz hcl ho hr h1=>exact ho
theorem nilEq_run {sz:Nat} {es:List AV} {o:Own} {v:Value} {b:Bool} (h:nilEqA es o = some b) (hx:Rep E w (.sl sz es o) v):∃ A n c,v = .slice A n c∧A.isNone = b:=by
 cases hx with | sl _ _ _ A cap u hcap hmax hA hsz hcl ho hr h1 =>
 unfold nilEqA at h
 split at h
 ·have:Value.slice A es.length cap = .slice none 0 0:=ho
  injection this with e1 e2 e3
  injection h with h
  subst h
  exact ⟨A,_,_,rfl,by rw [e1]; rfl⟩
 ·split at h
  ·cases h
  ·rename_i hne
   injection h with h
   subst h
   rcases hA with rfl | ⟨bk,off,rfl,_⟩
   ·simp at hne
   ·exact ⟨_,_,_,rfl,rfl⟩
theorem binA_run {op:BinOp} {t:TypeId} {ox oy:Operand} {kc:Bool} (hk:kc = true→(isK ox || isK oy) = true) {x y r:AV} {vx vy:Value} (h:binA P op t kc x y = some r) (hx:Rep E w x vx) (hy:Rep E w y vy) :
  ∃ v,(do eqGuard op t ox oy vx vy; binOp op t vx vy:Sem Value).run P w = .ok v w∧Rep E w r v:=by
 unfold binA at h
 split at h
 ·have e1:=rep_nilI hx
  have e2:=rep_nilI hy
  subst e1; subst e2
  split at h
  ·rename_i ms hu
   simp at h; subst h
   refine ⟨.bool true,?_,.bool _⟩
   simp [guard_nil (hk rfl),binOp,equal_nil hu]
  ·rename_i ms hu
   simp at h; subst h
   refine ⟨.bool false,?_,.bool _⟩
   simp [guard_nil (hk rfl),binOp,equal_nil hu]
  ·cases h
 ·have e1:=rep_nilI hx
  subst e1
  obtain ⟨ti,u,rfl⟩:=rep_ifc hy
  split at h
  ·rename_i ms hu
   simp at h; subst h
   exact ⟨.bool false,by simp [eqGuard,binOp,equal_nil_l hu],.bool _⟩
  ·rename_i ms hu
   simp at h; subst h
   exact ⟨.bool true,by simp [eqGuard,binOp,equal_nil_l hu],.bool _⟩
  ·cases h
 ·have e1:=rep_nilI hy
  subst e1
  obtain ⟨ti,u,rfl⟩:=rep_ifc hx
  split at h
  ·rename_i ms hu
   simp at h; subst h
   exact ⟨.bool false,by simp [eqGuard,binOp,equal_nil_r hu],.bool _⟩
  ·rename_i ms hu
   simp at h; subst h
   exact ⟨.bool true,by simp [eqGuard,binOp,equal_nil_r hu],.bool _⟩
  ·cases h
 ·have e2:=rep_nilsl hy
  subst e2
  have key:∀ b,nilEqA ‹List AV› ‹Own› = some b→∃ A n c,vx = .slice A n c∧A.isNone = b:=fun b hb=>nilEq_run hb hx
  split at h
  ·rename_i hu
   simp only [Option.map_eq_some_iff] at h
   obtain ⟨b,hb,rfl⟩:=h
   obtain ⟨A,n,c,rfl,hA⟩:=key b hb
   refine ⟨.bool b,?_,.bool _⟩
   simp only [Sem.run_bind]
   simp [eqGuard,binOp,equal_slice_nil hu,hA]
  ·rename_i hu
   simp only [Option.map_eq_some_iff] at h
   obtain ⟨b,hb,rfl⟩:=h
   obtain ⟨A,n,c,rfl,hA⟩:=key b hb
   refine ⟨.bool !b,?_,.bool _⟩
   simp only [Sem.run_bind]
   simp [eqGuard,binOp,equal_slice_nil hu,hA]
  ·cases h
 ·cases hx; cases hy
  have hg:=guard_pure (P:=P) (w:=w) (op:=op) (t:=t) (ox:=ox) (oy:=oy) (x:=.int ‹IntKind› ‹Int›) (y:=.int ‹IntKind› ‹Int›) (.inr (.inl ⟨_,_,rfl⟩))
  simp only [Sem.run_bind]
  split at h
  ·obtain ⟨v,hv,hr⟩:=shiftA_run (w:=w) (E:=E) (t:=t) h
   exact ⟨v,by rw [guard_pure (.inr (.inl ⟨_,_,rfl⟩))]; exact hv,hr⟩
  ·obtain ⟨v,hv,hr⟩:=shiftA_run (w:=w) (E:=E) (t:=t) h
   exact ⟨v,by rw [guard_pure (.inr (.inl ⟨_,_,rfl⟩))]; exact hv,hr⟩
  ·rename_i h1 h2
   split at h
   ·rename_i hk
    subst hk
    obtain ⟨v,hv,hr⟩:=intA_run (w:=w) (E:=E) (P:=P) (t:=t) h (fun e=>h1 e) (fun e=>h2 e)
    exact ⟨v,by rw [guard_pure (.inr (.inl ⟨_,_,rfl⟩))]; exact hv,hr⟩
   ·cases h
 ·cases hx with | str _ s hs=>cases hy with | str _ s' hs' =>
  subst hs; subst hs'
  obtain ⟨v,hv,hr⟩:=strA_run (w:=w) (E:=E) (P:=P) (t:=t) h
  exact ⟨v,by simp only [Sem.run_bind]; rw [guard_pure (.inr (.inr ⟨_,rfl⟩))]; exact hv,hr⟩
 ·rename_i _ _ _ hn1 hn2
  have key:∀ b,equalA P t x y = some b→(binOp .eql t vx vy).run P w = .ok (.bool b) w∧(binOp .neq t vx vy).run P w = .ok (.bool !b) w∧∀ op ox oy,(eqGuard op t ox oy vx vy).run P w = .ok () w:=by
   intro b hb
   obtain ⟨h1,h2⟩:=equalA_run hb hx hy
   have:=binOp_eql h1 (fun k n k' m ⟨e1,e2⟩=>by
     subst e1; subst e2
     cases hx with
     | int=>cases hy with
      | int=>exact hn1 _ _ _ _ rfl rfl
      | lit _ hl=>simp [litOk] at hl
      | junk=>simp [equalA,eqA,eqDepth,eqScalA] at hb
      | opq _ _=>simp [equalA,eqA,eqDepth,eqScalA] at hb
     | lit _ hl=>simp [litOk] at hl
     | opq _ _=>simp [equalA,eqA,eqDepth,eqScalA] at hb
     | junk=>simp [equalA,eqA,eqDepth,eqScalA] at hb) (fun s s' ⟨e1,e2⟩=>by
     subst e1; subst e2
     cases hx with
     | str=>cases hy with
      | str=>exact hn2 _ _ rfl rfl
      | lit _ hl=>simp [litOk] at hl
      | junk=>simp [equalA,eqA,eqDepth,eqScalA] at hb
      | opq _ _=>simp [equalA,eqA,eqDepth,eqScalA] at hb
     | lit _ hl=>simp [litOk] at hl
     | opq _ _=>simp [equalA,eqA,eqDepth,eqScalA] at hb
     | junk=>simp [equalA,eqA,eqDepth,eqScalA] at hb) (fun k n k' m ⟨e1,e2⟩=>by
     subst e1; subst e2
     cases hx <;> simp [equalA,eqA,eqDepth,eqScalA] at hb) (fun k n m k' n' m' ⟨e1,e2⟩=>by
     subst e1; subst e2
     cases hx <;> simp [equalA,eqA,eqDepth,eqScalA] at hb)
   exact ⟨this.1,this.2,h2⟩
  split at h
  ·cases he:equalA P t x y with
   | none=>simp [he] at h
   | some b =>
    simp [he] at h; subst h
    obtain ⟨h1,_,h3⟩:=key b he
    exact ⟨_,by simp only [Sem.run_bind,h3,Result.andThen_ok]; exact h1,.bool b⟩
  ·cases he:equalA P t x y with
   | none=>simp [he] at h
   | some b =>
    simp [he] at h; subst h
    obtain ⟨_,h1,h3⟩:=key b he
    exact ⟨_,by simp only [Sem.run_bind,h3,Result.andThen_ok]; exact h1,.bool _⟩
  ·cases h
theorem unA_run {op:UnOp} {x r:AV} {vx:Value} (h:unA op x = some r) (hx:Rep E w x vx):∃ v,(Op.unary op vx).run P w = .ok v w∧Rep E w r v:=by
 unfold unA at h
 split at h
 ·cases hx
  split at h
  ·simp at h; subst h; exact ⟨_,by simp [Op.unary,Op.intArith],.int _ _⟩
  ·simp [bitsA] at h; subst h; exact ⟨_,by simp [Op.unary,Op.intBits],.int _ _⟩
  ·cases h
 ·cases hx
  split at h
  ·simp at h; subst h; exact ⟨_,by simp [Op.unary],.bool _⟩
  ·cases h
 ·cases h
theorem fieldAddrA_run {s:TypeId} {f:Nat} {x r:AV} {vx:Value} (h:fieldAddrA P s f x = some r) (hx:Rep E w x vx):∃ v,(Instr.fieldAt s vx f).run P w = .ok v w∧Rep E w r v:=by
 unfold fieldAddrA at h
 split at h
 ·rename_i fs hu
  split at h
  ·rename_i fd hf
   split at h
   ·cases h
   ·rename_i hz
    simp only [not_or] at hz
    obtain ⟨z,hz'⟩:=Option.ne_none_iff_exists'.1 hz.2
    have hz0:z ≠ 0:=fun e=>hz.1 (e ▸ hz')
    have hplace:∀ b o,(fieldPlace ⟨b,o,none⟩ fd).run P w = .ok ⟨b,o + fd.offset,none⟩ w:=fun b o=>by
     simp [fieldPlace,run_sizeOf' hz',hz0,add_plain]
    split at h
    ·simp at h; subst h
     cases hx with | ptr _ _ blk hb =>
     exact ⟨_,by simp [Instr.fieldAt,run_underlying hu,hf,Instr.sureAddr,hplace],.ptr _ _ _ hb⟩
    ·simp at h; subst h
     cases hx with | elt _ _ _ _ b off u hcl hA hc h1 =>
     exact ⟨_,by simp only [Instr.fieldAt,Sem.run_bind,run_underlying hu,Result.andThen_ok,hf,Instr.sureAddr,Sem.run_pure,hplace,Nat.add_assoc]; rfl,by
      rw [← Nat.add_assoc]; exact .elt _ _ _ _ b off u hcl hA hc h1⟩
    ·simp at h; subst h
     cases hx with | mel _ _ _ _ blk hb =>
     exact ⟨_,by simp only [Instr.fieldAt,Sem.run_bind,run_underlying hu,Result.andThen_ok,hf,Instr.sureAddr,Sem.run_pure,hplace,Nat.add_assoc],.mel _ _ _ _ _ hb⟩
    ·cases h
  ·cases h
 ·cases h
end
section
variable {P : Program} {E : Env} {w : World}
theorem rep_slice_shape {sz:Nat} {es:List AV} {o:Own} {v:Value} (h:Rep E w (.sl sz es o) v):∃ A cap,v = .slice A es.length cap∧es.length≤cap:=by
 cases h with | sl _ _ _ A cap u hcap=>exact ⟨A,cap,rfl,hcap⟩
theorem indexAddrA_run {t:TypeId} {x i r:AV} {vx vi:Value} (h:indexAddrA P t x i = some r) (hx:Rep E w x vx) (hi:Rep E w i vi):∃ v,(Instr.indexAt t vx vi).run P w = .ok v w∧Rep E w r v:=by
 unfold indexAddrA at h
 split at h
 ·rename_i e k n hu
  cases hi
  split at h
  ·rename_i sz es o
   split at h
   ·rename_i hc
    obtain ⟨h0,hlt,hs⟩:=hc
    simp at h; subst h
    cases hx with | sl _ _ _ A cap u hcap hmax hA hsz hcl ho hr h1 =>
    have hne:es ≠ []:=fun e=>by subst e; simp at hlt; omega
    obtain ⟨b,off,rfl,hA'⟩:=hA.resolve_left hne
    refine ⟨.pointer (some ⟨b,off + n.toNat * sz,none⟩),?_,?_⟩
    ·simp [Instr.indexAt,run_underlying hu,asIntOf,h0,hlt,run_sizeOf' hs,add_plain]
    ·have:=Rep.elt (E:=E) (w:=w) sz es n.toNat 0 b off u hcl hA' hr h1
     simpa using this
   ·cases h
  ·rename_i b sz len
   split at h
   ·rename_i hc
    obtain ⟨h0,hlt,hs⟩:=hc
    simp at h; subst h
    cases hx with | ms _ _ _ blk cap hb h1 h2 =>
    refine ⟨.pointer (some ⟨blk,n.toNat * sz,none⟩),?_,?_⟩
    ·simp [Instr.indexAt,run_underlying hu,asIntOf,h0,hlt,run_sizeOf' hs,add_plain]
    ·have:=Rep.mel (E:=E) (w:=w) b sz n.toNat 0 blk hb
     simpa using this
   ·cases h
  ·cases h
 ·rename_i len e k n hu
  cases hi
  split at h
  ·rename_i hc
   obtain ⟨h0,hlt⟩:=hc
   split at h
   ·rename_i s b o hs
    simp at h; subst h
    cases hx with | ptr _ _ blk hb =>
    refine ⟨.pointer (some ⟨blk,o + n.toNat * s,none⟩),?_,.ptr _ _ _ hb⟩
    simp [Instr.indexAt,run_underlying hu,asIntOf,Instr.sureAddr,h0,hlt,run_sizeOf' hs,add_plain]
   ·rename_i s sz es i j hs
    simp at h; subst h
    cases hx with | elt _ _ _ _ b off u hcl hA hr h1 =>
    refine ⟨.pointer (some ⟨b,off + i * sz + (j + n.toNat * s),none⟩),?_,.elt _ _ _ _ b off u hcl hA hr h1⟩
    simp [Instr.indexAt,run_underlying hu,asIntOf,Instr.sureAddr,h0,hlt,run_sizeOf' hs,add_plain,Nat.add_assoc]
   ·cases h
  ·cases h
 ·cases h
theorem takeA_run {t:TypeId} {cs:List AV} {o:Nat} {r:AV} {b base:Nat} (val:Nat→Value) (hv:∀ (k:Nat) (c:AV),cs[k]? = some c→w.cell? ⟨b,base + k,none⟩ = some (val k)∧Rep E w c (val k)∧(val k).oneCell' = true)
  (h:takeA (aggA P t) (sizeA P t) cs o = some r):∃ v,(loadVar t ⟨b,base + o,none⟩).run P w = .ok v w∧Rep E w r v:=by
 unfold takeA at h
 split at h
 ·rename_i s ha hs
  split at h
  ·rename_i hle
   simp at h; subst h
   have hl:(loadCells ⟨b,base + o,none⟩ s).run P w = .ok ((List.range s).map fun k=>val (o + k)).toArray w:=by
    have:=run_loadCells_list (P:=P) w ⟨b,base + o,none⟩ ((List.range s).map fun k=>val (o + k)) (fun j v hj=>by
     rw [List.getElem?_map] at hj
     by_cases hjs:j < s
     ·rw [List.getElem?_range hjs] at hj
      simp at hj; subst hj
      rw [add_plain,Nat.add_assoc]
      exact (hv (o + j) cs[o + j] (List.getElem?_eq_getElem (by omega))).1
     ·rw [List.getElem?_eq_none (by simpa using hjs)] at hj; cases hj)
    simpa using this
   refine ⟨.agg ((List.range s).map fun k=>val (o + k)).toArray,by simp [loadVar,run_isAgg ha,run_sizeOf' hs,hl],?_⟩
   refine .agg _ _ (by simp; omega) (fun i v hi=>?_) (fun i c v hc hi=>?_)
   ·simp only [List.getElem?_toArray,List.getElem?_map] at hi
    by_cases his:i < s
    ·rw [List.getElem?_range his] at hi
     simp at hi; subst hi
     exact (hv (o + i) cs[o + i] (List.getElem?_eq_getElem (by omega))).2.2
    ·rw [List.getElem?_eq_none (by simpa using his)] at hi; cases hi
   ·simp only [List.getElem?_toArray,List.getElem?_map] at hi
    rw [List.getElem?_take] at hc
    split at hc
    ·rename_i his
     rw [List.getElem?_range his] at hi
     simp at hi; subst hi
     rw [List.getElem?_drop] at hc
     exact (hv (o + i) c hc).2.1
    ·cases hc
  ·cases h
 ·rename_i s ha _
  obtain ⟨h1,h2,_⟩:=hv o r h
  exact ⟨val o,by simp [loadVar,run_isAgg ha,run_load,h1],h2⟩
 ·cases h
theorem loadA_run {G:Glob} {N0:Nat→Prop} {w0:World} {I0:Nat→Nat→Prop} {S:St} {t:TypeId} {x r:AV} {vx:Value} (hS:SR P G N0 w0 I0 S E w) (h:loadA P S t x = some r) (hx:Rep E w x vx):∃ v,(Instr.loadAt t vx).run P w = .ok v w∧Rep E w r v:=by
 unfold loadA at h
 split at h
 ·rename_i b o
  split at h
  ·rename_i cs hb
   cases hx with | ptr _ _ blk hB =>
   split at h
   case isFalse=>cases h
   rename_i hrow
   obtain ⟨blk',hB',hbx⟩:=hS.box b cs hb
   obtain ⟨arr,ty,hh,hn,hc⟩:=hbx.cells hrow
   obtain rfl:blk = blk':=by rw [hB] at hB'; injection hB'
   have:=takeA_run (P:=P) (E:=E) (w:=w) (b:=blk) (base:=0) (fun k=>arr.getD k undef) (fun k c hk=>by
    have hlt:k < arr.size:=by
     have:=(List.getElem?_eq_some_iff.1 hk).1
     omega
    have h2:=hc k c arr[k] hk (Array.getElem?_eq_getElem hlt)
    have e:arr.getD k undef = arr[k]:=by simp [hlt]
    rw [e]
    exact ⟨by simp [World.cell?,hh,hlt],h2⟩) h
   simpa [Instr.loadAt,Instr.sureAddr] using this
  ·cases h
 ·rename_i sz es i j
  split at h
  ·rename_i e he
   cases hx with | elt _ _ _ _ b off u hcl hA hr h1 =>
   have:=takeA_run (P:=P) (E:=E) (w:=w) (b:=b) (base:=off + i * sz) (fun k=>u i k) (fun k c hk=>⟨(hA i e k c he hk).2,hr i e k c he hk,h1 i k⟩) h
   simpa [Instr.loadAt,Instr.sureAddr] using this
  ·cases h
 ·rename_i b sz i j
  split at h
  ·rename_i f sz' es hb
   cases hx with | mel _ _ _ _ blk hB =>
   split at h
   case isFalse=>cases h
   rename_i hsz
   subst hsz
   split at h
   ·rename_i e he
    obtain ⟨blk',hB',hbx⟩:=hS.box b _ hb
    obtain rfl:blk = blk':=by rw [hB] at hB'; injection hB'
    obtain ⟨arr,⟨ty,hh⟩,hc⟩:=hbx.own_cells
    have:=takeA_run (P:=P) (E:=E) (w:=w) (b:=blk) (base:=i * sz') (fun k=>arr.getD (i * sz' + k) undef) (fun k c hk=>by
     obtain ⟨v,h1,h2,h3⟩:=hc i e k c he hk
     obtain ⟨hlt,rfl⟩:=Array.getElem?_eq_some_iff.1 h1
     have e:arr.getD (i * sz' + k) undef = arr[i * sz' + k]:=by simp [hlt]
     rw [e]
     exact ⟨by simp [World.cell?,hh,hlt],h2,h3⟩) h
    simpa [Instr.loadAt,Instr.sureAddr] using this
   ·cases h
  ·cases h
 ·cases h
theorem indexA_run {t:TypeId} {x i r:AV} {vx vi:Value} (h:indexA P t x i = some r) (hx:Rep E w x vx) (hi:Rep E w i vi):∃ v,(Instr.index t vx vi).run P w = .ok v w∧Rep E w r v:=by
 unfold indexA at h
 split at h
 ·rename_i s k n hu
  cases hi
  cases hx with | str _ bs hs =>
  split at h
  ·rename_i h0
   cases hg:s[n.toNat]? with
   | none=>simp [hg] at h
   | some c =>
    simp [hg] at h; subst h
    refine ⟨.int .u8 c.toNat,?_,.int _ _⟩
    have hb:bs[n.toNat]? = some c:=by
     subst hs
     obtain ⟨hlt,e⟩:=List.getElem?_eq_some_iff.1 hg
     have hlt':n.toNat < bs.size:=by rw [size_data]; exact hlt
     rw [getElem?_pos bs n.toNat hlt']
     have:bs[n.toNat] = bs.data[n.toNat]:=rfl
     rw [this]
     simpa using e
    simp [Instr.index,asIntOf,run_underlying hu,h0,hb]
  ·cases h
 ·rename_i len e cs k n hu
  cases hi
  split at h
  ·rename_i h0
   split at h
   ·rename_i s ha hs
    cases hx with | agg _ vs hn h1 hc =>
    have hlt:n.toNat * s < vs.size:=by rw [hn]; exact (List.getElem?_eq_some_iff.1 h).1
    refine ⟨vs[n.toNat * s],?_,hc _ _ _ h (Array.getElem?_eq_getElem hlt)⟩
    simp [Instr.index,asIntOf,run_underlying hu,h0,part,run_isAgg ha,run_sizeOf' hs,hlt]
   ·cases h
  ·cases h
 ·cases h
theorem lenA_run {t ty:TypeId} {x r:AV} {vx:Value} (h:lenA P t x = some r) (hx:Rep E w x vx):∃ v,(Builtin.len_ #[t] ty #[vx]).run P w = .ok v w∧Rep E w r v:=by
 unfold lenA at h
 split at h
 ·rename_i s hu
  cases hx with | str _ bs hs =>
  simp at h; subst h; subst hs
  exact ⟨.int .i64 bs.size,by simp [Builtin.len_,run_underlying hu,goInt],by rw [size_data]; exact .int _ _⟩
 ·rename_i sz es o hu
  obtain ⟨A,cap,rfl,_⟩:=rep_slice_shape hx
  simp at h; subst h
  exact ⟨.int .i64 es.length,by simp [Builtin.len_,run_underlying hu,goInt],.int _ _⟩
 ·rename_i b sz n hu
  cases hx with | ms _ _ _ blk cap hb h1 h2 =>
  simp at h; subst h
  exact ⟨.int .i64 n,by simp [Builtin.len_,run_underlying hu,goInt],.int _ _⟩
 ·rename_i n _ hu
  simp at h; subst h
  exact ⟨.int .i64 n,by simp [Builtin.len_,run_underlying hu,goInt],.int _ _⟩
 ·cases h
theorem bound_run {a:AV} {v:Value} {d l y:Nat} {code:BoundsCode} (h:boundA (some a) d = some l) (hr:Rep E w a v) (hl:l≤y) :
  (Instr.sliceBound v y code).run P w = .ok l w:=by
 unfold boundA at h
 split at h
 ·rename_i e; cases e
 ·rename_i k n e
  cases e
  cases hr
  split at h
  ·rename_i h0
   simp at h; subst h
   have h2:n≤(y:Int):=by omega
   simp [Instr.sliceBound,asIntOf,h0,h2]
  ·cases h
 ·cases h
theorem str_take_drop {bs:ByteArray} {l h:Nat}:(bs.extract l h).data.toList = (bs.data.toList.take h).drop l:=by
 rw [ByteArray.data_extract,Array.toList_extract,List.extract_eq_take_drop,List.drop_take]
theorem bounds_run {isS:Bool} {len cap:Nat} {lo hi mx:Option AV} {vlo vhi vmx:Option Value} {l h m:Nat}
  (rlo:∀ a,lo = some a→∃ v,vlo = some v∧Rep E w a v) (nlo:lo = none→vlo = none) (rhi:∀ a,hi = some a→∃ v,vhi = some v∧Rep E w a v) (nhi:hi = none→vhi = none)
  (rmx:∀ a,mx = some a→∃ v,vmx = some v∧Rep E w a v) (nmx:mx = none→vmx = none)
  (hl:boundA lo 0 = some l) (hh:boundA hi len = some h) (hm:boundA mx cap = some m) (h1:l≤h) (h2:h≤m) (h3:m≤cap) (hsome:mx.isSome = true→hi.isSome = true) :
  (Instr.sliceBounds isS len cap vlo vhi vmx).run P w = .ok (l,h,m) w:=by
 unfold Instr.sliceBounds
 cases mx with
 | none =>
  obtain rfl:=nmx rfl
  obtain rfl:cap = m:=by simpa [boundA] using hm
  cases hi with
  | none =>
   obtain rfl:=nhi rfl
   obtain rfl:len = h:=by simpa [boundA] using hh
   cases lo with
   | none =>
    obtain rfl:=nlo rfl
    obtain rfl:0 = l:=by simpa [boundA] using hl
    simp
   | some a =>
    obtain ⟨v,rfl,hr⟩:=rlo a rfl
    simp [bound_run hl hr h1]
  | some b =>
   obtain ⟨u,rfl,hu⟩:=rhi b rfl
   cases lo with
   | none =>
    obtain rfl:=nlo rfl
    obtain rfl:0 = l:=by simpa [boundA] using hl
    simp [bound_run hh hu h2]
   | some a =>
    obtain ⟨v,rfl,hr⟩:=rlo a rfl
    simp [bound_run hh hu h2,bound_run hl hr h1]
 | some c =>
  obtain ⟨x,rfl,hx⟩:=rmx c rfl
  cases hi with
  | none=>cases hsome rfl
  | some b =>
   obtain ⟨u,rfl,hu⟩:=rhi b rfl
   cases lo with
   | none =>
    obtain rfl:=nlo rfl
    obtain rfl:0 = l:=by simpa [boundA] using hl
    simp [bound_run hm hx h3,bound_run hh hu h2]
   | some a =>
    obtain ⟨v,rfl,hr⟩:=rlo a rfl
    simp [bound_run hm hx h3,bound_run hh hu h2,bound_run hl hr h1]
theorem sub_at {es:List AV} {l h i:Nat} {e:AV} (hi:((es.take h).drop l)[i]? = some e):es[l + i]? = some e:=by
 rw [List.getElem?_drop,List.getElem?_take] at hi
 split at hi
 ·exact hi
 ·cases hi
theorem sub_length {es:List AV} {l h:Nat} (h2:h≤es.length):((es.take h).drop l).length = h - l:=by
 rw [List.length_drop,List.length_take]; omega
theorem rep_sub {sz:Nat} {es:List AV} {o o':Own} {A:Option Addr} {cap l h m:Nat} (hr:Rep E w (.sl sz es o) (.slice A es.length cap)) (h1:l≤h) (h2:h≤es.length) (hm:h≤m) (hmc:m≤cap)
  (ho:OwnOk E.K o' (h - l) (m - l) (.slice (if m = l then A else A.map (·.add (l * sz))) (h - l) (m - l))) :
  Rep E w (.sl sz ((es.take h).drop l) o') (.slice (if m = l then A else A.map (·.add (l * sz))) (h - l) (m - l)):=by
 cases hr with | sl _ _ _ _ _ u hcap hmax hA hsz hcl ho' hr hone =>
 have hlen:=sub_length (l:=l) h2
 have:=Rep.sl (E:=E) (w:=w) sz ((es.take h).drop l) o' (if m = l then A else A.map (·.add (l * sz))) (m - l) (fun i j=>u (l + i) j) (by rw [hlen]; omega) (by omega) ?_ (fun e he=>hsz e (by
   exact List.mem_of_mem_take (List.mem_of_mem_drop he))) (fun e he=>hcl e (List.mem_of_mem_take (List.mem_of_mem_drop he))) (by rw [hlen]; exact ho) (fun i e j c hi hj=>hr _ e j c (sub_at hi) hj) (fun i j=>hone _ _)
 ·rw [hlen] at this; exact this
 ·by_cases hne:(es.take h).drop l = []
  ·exact .inl hne
  ·right
   have hlt:l < h:=by
    rcases Nat.lt_or_ge l h with h' | h'
    ·exact h'
    ·exact absurd (List.eq_nil_of_length_eq_zero (by rw [hlen]; omega)) hne
   have hml:m ≠ l:=by omega
   have hes:es ≠ []:=fun e=>by subst e; simp at h2; omega
   obtain ⟨b,off,rfl,hA'⟩:=hA.resolve_left hes
   refine ⟨b,off + l * sz,by simp [hml,add_plain],fun i e j c hi hj=>?_⟩
   have:=hA' _ e j c (sub_at hi) hj
   rw [Nat.add_mul,← Nat.add_assoc] at this
   exact this
theorem sliceA_run {t:TypeId} {x r:AV} {vx:Value} {lo hi mx:Option AV} {vlo vhi vmx:Option Value}
  (rlo:∀ a,lo = some a→∃ v,vlo = some v∧Rep E w a v) (nlo:lo = none→vlo = none) (rhi:∀ a,hi = some a→∃ v,vhi = some v∧Rep E w a v) (nhi:hi = none→vhi = none)
  (rmx:∀ a,mx = some a→∃ v,vmx = some v∧Rep E w a v) (nmx:mx = none→vmx = none)
  (h:sliceA P t x lo hi mx = some r) (hx:Rep E w x vx):∃ v,(Instr.sliceAt t vx vlo vhi vmx).run P w = .ok v w∧Rep E w r v:=by
 unfold sliceA at h
 split at h
 ·rename_i s hu
  cases hx with | str _ bs hs =>
  subst hs
  split at h
  ·rename_i l h' hl hh
   split at h
   ·rename_i hc
    simp at h; subst h
    obtain rfl:=nmx rfl
    have hb:=bounds_run (P:=P) (E:=E) (w:=w) (isS:=false) (len:=bs.size) (cap:=bs.size) (mx:=none) rlo nlo rhi nhi rmx nmx hl (by rw [size_data]; exact hh) rfl hc.1 (by rw [size_data]; exact hc.2) (Nat.le_refl _) (by simp)
    refine ⟨.string (bs.extract l h'),?_,.str _ _ str_take_drop⟩
    simp [Instr.sliceAt,run_underlying hu,Instr.slice,hb]
   ·cases h
  ·cases h
 ·rename_i e sz es o hu
  obtain ⟨A,cap,rfl,hcap⟩:=rep_slice_shape hx
  split at h
  ·rename_i l h' s hl hh hs
   split at h
   ·rename_i hc
    obtain ⟨h1,h2,hsz⟩:=hc
    have addr:∀ m,h'≤m→(if m = l then A else A.map (·.add (l * s))) = (if m = l then A else A.map (·.add (l * sz))):=fun m hm=>by
     rcases hsz with rfl | rfl
     ·rfl
     ·have:l = 0:=by simp at h2; omega
      subst this; simp
    split at h
    ·simp at h; subst h
     obtain rfl:=nmx rfl
     have hb:=bounds_run (P:=P) (E:=E) (w:=w) (isS:=true) (len:=es.length) (cap:=cap) (mx:=none) rlo nlo rhi nhi rmx nmx hl hh rfl h1 (by omega) (Nat.le_refl _) (by simp)
     refine ⟨_,by simp only [Instr.sliceAt,Sem.run_bind,run_underlying hu,Result.andThen_ok,Instr.slice,hb,run_sizeOf' hs,Sem.run_pure]; rfl,?_⟩
     show Rep E w _ (.slice (if cap = l then A else A.map (·.add (l * s))) (h' - l) (cap - l))
     rw [addr cap (by omega)]
     refine rep_sub hx h1 h2 (by omega) (Nat.le_refl _) ?_
     unfold ownAfter
     cases hx with | sl _ _ _ _ _ u _ hmax hA hsz' _ ho hr hone =>
     cases o with
     | no=>trivial
     | nil=>trivial
     | full =>
      simp only [OwnOk] at ho
      simp only
      split
      ·subst h'; simp [OwnOk,ho]
      ·trivial
     | tok k =>
      simp only
      split
      ·rename_i hh'
       obtain ⟨rfl,rfl⟩:=hh'
       simp only [OwnOk,Nat.sub_zero,Nat.zero_mul] at ho ⊢
       have:(if cap = 0 then A else A.map (·.add 0)) = A:=by
        split
        ·rfl
        ·cases A <;> simp [Addr.add]
       rw [this]; exact ho
      ·trivial
    ·rename_i k m
     split at h
     ·rename_i hc
      obtain ⟨hs',hm1,hm2⟩:=hc
      simp at h; subst h
      have hm':boundA (some (.int k m)) cap = some m.toNat:=by simp only [boundA]; rw [if_pos (by omega)]
      have hb:=bounds_run (P:=P) (E:=E) (w:=w) (isS:=true) (len:=es.length) (cap:=cap) (mx:=some (.int k m)) rlo nlo rhi nhi rmx nmx hl hh hm' h1 (by omega) (by omega) (fun _=>hs')
      refine ⟨_,by simp only [Instr.sliceAt,Sem.run_bind,run_underlying hu,Result.andThen_ok,Instr.slice,hb,run_sizeOf' hs,Sem.run_pure]; rfl,?_⟩
      show Rep E w _ (.slice (if m.toNat = l then A else A.map (·.add (l * s))) (h' - l) (m.toNat - l))
      rw [addr m.toNat (by omega)]
      refine rep_sub hx h1 h2 (by omega) (by omega) ?_
      unfold ownAfter
      simp only
      split
      ·rename_i e'; simp [OwnOk,e']
      ·trivial
     ·cases h
    ·cases h
   ·cases h
  ·cases h
 ·rename_i e b sz n hu
  cases hx with | ms _ _ _ blk cap hB h1' h2' h3' =>
  split at h
  ·rename_i l h' s hl hh hs
   split at h
   ·rename_i hc
    obtain ⟨h1,h2,rfl⟩:=hc
    injection h with h
    obtain rfl:=nmx rfl
    have hb:=bounds_run (P:=P) (E:=E) (w:=w) (isS:=true) (len:=n) (cap:=cap) (mx:=none) rlo nlo rhi nhi rmx nmx hl hh rfl h1 (by omega) (Nat.le_refl _) (by simp)
    refine ⟨_,by simp only [Instr.sliceAt,Sem.run_bind,run_underlying hu,Result.andThen_ok,Instr.slice,hb,run_sizeOf' hs,Sem.run_pure]; rfl,?_⟩
    show Rep E w _ (.slice (if cap = l then some ⟨blk,0,none⟩ else (some ⟨blk,0,none⟩:Option Addr).map (·.add (l * s))) (h' - l) (cap - l))
    cases hlo:lo with
    | none =>
     subst hlo
     simp only [boundA,Option.some.injEq] at hl; subst hl
     simp only [Option.isNone_none,if_true] at h; subst h
     have:(if cap = 0 then some (⟨blk,0,none⟩:Addr) else (some ⟨blk,0,none⟩:Option Addr).map (·.add (0 * s))) = some ⟨blk,0,none⟩:=by
      split
      ·rfl
      ·simp [Addr.add]
     rw [this]
     exact .ms b s h' blk cap hB (by omega) h2' h3'
    | some a =>
     subst hlo
     simp only [Option.isNone_some,Bool.false_eq_true,if_false] at h; subst h
     refine .mst b s l _ blk _ _ hB ?_
     split
     ·left; omega
     ·right; simp [Addr.add]; omega
   ·cases h
  ·cases h
 ·cases h
end
section
variable {P : Program} {E : Env} {w w' : World} {G : Glob} {N0 : Nat → Prop} {w0 : World} {I0 : Nat → Nat → Prop} {S : St}
theorem SR.ext (h:SR P G N0 w0 I0 S E w) (hb:Below w.heap.size w w') {I':Nat→Nat→Prop} (h1:∀ b o,E.I b o→I' b o) (h2:∀ b o,I' b o→E.I b o∨(w.heap.size≤b∧b < w'.heap.size)) :
  SR P G N0 w0 I0 S ⟨I',E.B,E.K⟩ w'∧Env.Le E ⟨I',E.B,E.K⟩ w w':=by
 have hle:Env.Le E ⟨I',E.B,E.K⟩ w w':=⟨fun b o hi=>⟨h1 b o hi,hb.cell (p:=⟨b,o,none⟩) (h.Ilt b o hi)⟩,fun _ _ h=>h,fun _ _ _ h=>h,fun id x hx=>rowsOf_block (hb.block x (h.Blt id x hx).2.2.1)⟩
 refine ⟨⟨h.below.trans (Below.toQ hb h.n0),fun b hb'=>Nat.lt_of_lt_of_le (h.n0 b hb') hb.size,fun b o hi=>?_,fun b o hi hlt=>(h2 b o hi).elim (fun h'=>h.Iold b o h' hlt) (fun h'=>absurd (h.n0 b hlt) (by omega)),fun id b he=>?_,h.Binj,fun id cs hi=>?_,h.glob.le hle,h.hole,h.Klt,fun t n v hk g hg=>Nat.lt_of_lt_of_le (h.Kblk t n v hk g hg) hb.size,fun t n e ht=>?_⟩,hle⟩
 ·rcases h2 b o hi with h' | h'
  ·exact Nat.lt_of_lt_of_le (h.Ilt b o h') hb.size
  ·exact h'.2
 ·obtain ⟨a1,a2,a3,a4⟩:=h.Blt id b he
  refine ⟨a1,a2,Nat.lt_of_lt_of_le a3 hb.size,fun o ho=>?_⟩
  rcases h2 b o ho with h' | h'
  ·exact a4 o h'
  ·omega
 ·obtain ⟨blk,hB,hx⟩:=h.box id cs hi
  exact ⟨blk,hB,hx.le (hb.block blk (h.Blt id blk hB).2.2.1) hle⟩
 ·obtain ⟨v,xs,sz,hsz,hown,hu,hK,hg⟩:=h.live t n e ht
  have hlt:∀ g,v.ownBlock = some g→g < w.heap.size:=fun g hg'=>(hown.lt g hg').2
  refine ⟨v,xs,sz,hsz,hown.kept (row:=none) ⟨hb.os,hb.tape,hb.output,hb.size,fun k hk _=>hb.block k hk⟩ (by cases v.ownBlock <;> simp),hu,hK,fun g hg'=>?_⟩
  obtain ⟨a1,a2,a3⟩:=hg g hg'
  refine ⟨fun o ho=>?_,a2,a3⟩
  rcases h2 g o ho with h' | h'
  ·exact a1 o h'
  ·have:=hlt g hg'; omega
theorem below_drew (w:World):Below w.heap.size w w.drew:=(Below.refl _ w).drew
theorem below_alloc (w:World) (o:Obj):Below w.heap.size w (w.alloc o):=(Below.refl _ w).alloc (Nat.le_refl _) o
theorem SR.room (h:SR P G N0 w0 I0 S E w) (k:Nat):SR P G N0 w0 I0 { S with boxes:=S.boxes ++ List.replicate k none } E w:=by
 refine ⟨h.below,h.n0,h.Ilt,h.Iold,fun id b he=>?_,h.Binj,fun id cs hi=>?_,h.glob,fun id hi=>?_,h.Klt,h.Kblk,h.live⟩
 ·obtain ⟨a1,a2,a3,a4⟩:=h.Blt id b he
  refine ⟨by simp; omega,a2,a3,fun o ho=>?_⟩
  obtain ⟨cs,hf,hd⟩:=a4 o ho
  exact ⟨cs,by simp only [List.getElem?_append_left a1]; exact hf,hd⟩
 ·by_cases hid:id < S.boxes.length
  ·simp only [List.getElem?_append_left hid] at hi
   exact h.box id cs hi
  ·simp only at hi
   rw [List.getElem?_append_right (by omega),List.getElem?_replicate] at hi
   split at hi <;> simp at hi
 ·by_cases hid:id < S.boxes.length
  ·simp only [List.getElem?_append_left hid] at hi
   exact h.hole id hi
  ·cases hb:E.B id with
   | none=>rfl
   | some b=>exact absurd (h.Blt id b hb).1 hid
theorem SR.le_alloc (h:SR P G N0 w0 I0 S E w) (ob:Obj):Env.Le E E w (w.alloc ob):=
 ⟨fun b o hi=>⟨hi,(below_alloc w ob).cell (p:=⟨b,o,none⟩) (h.Ilt b o hi)⟩,fun _ _ h=>h,fun _ _ _ h=>h,fun id x hx=>rowsOf_block ((below_alloc w ob).block x (h.Blt id x hx).2.2.1)⟩
theorem SR.obj_new (h:SR P G N0 w0 I0 S E w) (bid:Nat) (hbid:S.boxes[bid]? = some none) (cs:List AV) (ob:Obj) (hc:BoxAt P E (w.alloc ob) w.heap.size cs) :
  ∃ E',SR P G N0 w0 I0 { S with boxes:=S.boxes.set bid (some cs) } E' (w.alloc ob)∧Env.Le E E' w (w.alloc ob)∧E'.B bid = some w.heap.size:=by
 have hb:=below_alloc w ob
 have hlt:bid < S.boxes.length:=(List.getElem?_eq_some_iff.1 hbid).1
 have hnone:∀ id b,E.B id = some b→id ≠ bid:=fun id b he e=>by subst e; rw [h.hole id hbid] at he; cases he
 let E':Env:=⟨E.I,fun id=>if id = bid then some w.heap.size else E.B id,E.K⟩
 have hleB:∀ b x,E.B b = some x→E'.B b = some x:=fun b x hx=>by
  show (if b = bid then some w.heap.size else E.B b) = some x
  rw [if_neg (hnone b x hx)]; exact hx
 have hle1:Env.Le E E' (w.alloc ob) (w.alloc ob):=⟨fun b o hi=>⟨hi,rfl⟩,hleB,fun _ _ _ h=>h,fun _ _ _=>rfl⟩
 have hle:Env.Le E E' w (w.alloc ob):=⟨fun b o hi=>⟨hi,hb.cell (p:=⟨b,o,none⟩) (h.Ilt b o hi)⟩,fun b x hx=>by
  show (if b = bid then some w.heap.size else E.B b) = some x
  rw [if_neg (hnone b x hx)]; exact hx,fun _ _ _ h=>h,fun id x hx=>rowsOf_block (hb.block x (h.Blt id x hx).2.2.1)⟩
 refine ⟨E',⟨h.below.trans (Below.toQ hb h.n0),fun b hb'=>Nat.lt_of_lt_of_le (h.n0 b hb') hb.size,fun b o hi=>by simp; have:=h.Ilt b o hi; omega,h.Iold,fun id b he=>?_,fun id id' b he he'=>?_,fun id cs' hi=>?_,h.glob.le hle,fun id hi=>?_,h.Klt,fun t n v hk g hg=>by have hlt:=h.Kblk t n v hk g hg; simp; omega,fun t n e ht=>?_⟩,hle,by
  show (if bid = bid then some w.heap.size else _) = _
  rw [if_pos rfl]⟩
 ·have he':(if id = bid then some w.heap.size else E.B id) = some b:=he
  split at he'
  ·rename_i e
   injection he' with he'
   subst he'
   subst e
   exact ⟨by simpa using hlt,fun hq=>Nat.lt_irrefl _ (h.n0 _ hq),by simp,fun o ho=>by have:=h.Ilt _ o ho; omega⟩
  ·rename_i hne
   obtain ⟨a1,a2,a3,a4⟩:=h.Blt id b he'
   exact ⟨by simpa using a1,a2,by simp; omega,fun o ho=>(a4 o ho).set (Ne.symm hne)⟩
 ·have e1:(if id = bid then some w.heap.size else E.B id) = some b:=he
  have e2:(if id' = bid then some w.heap.size else E.B id') = some b:=he'
  split at e1 <;> split at e2
  ·omega
  ·injection e1 with e1
   have:=(h.Blt id' b e2).2.2.1; omega
  ·injection e2 with e2
   have:=(h.Blt id b e1).2.2.1; omega
  ·exact h.Binj id id' b e1 e2
 ·simp only [List.getElem?_set] at hi
  by_cases hid:bid = id
  ·subst hid
   simp [hlt] at hi
   subst hi
   refine ⟨w.heap.size,?_,hc.le rfl hle1⟩
   show (if bid = bid then some w.heap.size else _) = _
   rw [if_pos rfl]
  ·simp [hid] at hi
   obtain ⟨blk,hB,hx⟩:=h.box id cs' hi
   exact ⟨blk,hle.B _ _ hB,hx.le (hb.block blk (h.Blt id blk hB).2.2.1) hle⟩
 ·simp only [List.getElem?_set] at hi
  by_cases hid:bid = id
  ·subst hid
   simp [hlt] at hi
  ·simp [hid] at hi
   show (if id = bid then some w.heap.size else E.B id) = none
   rw [if_neg (Ne.symm hid)]; exact h.hole id hi
 ·obtain ⟨v,xs,sz,hsz,hown,hu,hK,hg⟩:=h.live t n e ht
  refine ⟨v,xs,sz,hsz,hown.alloc _,hu,hK,fun g hg'=>?_⟩
  obtain ⟨a1,a2,a3⟩:=hg g hg'
  refine ⟨a1,fun id he=>?_,a3⟩
  have he':(if id = bid then some w.heap.size else E.B id) = some g:=he
  split at he'
  ·injection he' with he'
   have:=(hown.lt g hg').2; omega
  ·exact a2 id he'
theorem rows_setRow {w:World} {blk:Nat} {arr arr':Array Value} {ty:TypeId} {x:Nat × Nat} (hh:w.heap[blk]? = some (.cells arr ty x)) (h:arr'.size = arr.size):rowsOf (w.setRow blk arr') blk = rowsOf w blk:=by
 unfold rowsOf
 rw [setRow_heap w blk arr arr' ty _ hh,hh]; exact h
theorem SR.obj_set (h:SR P G N0 w0 I0 S E w) {id blk:Nat} {cs':List AV} {w':World} (hB:E.B id = some blk) (hos:w'.os = w.os) (htp:w'.tape = w.tape) (hout:w'.output = w.output) (hsz:w'.heap.size = w.heap.size)
  (hblk:∀ k,k ≠ blk→w'.heap[k]? = w.heap[k]?) (hc:BoxAt P E w' blk cs') (hnf:¬ Frz S id) (hrows:rowsOf w' blk = rowsOf w blk) :
  SR P G N0 w0 I0 { S with boxes:=S.boxes.set id (some cs') } E w'∧Env.Le E E w w':=by
 obtain ⟨b1,b2,b3,b4⟩:=h.Blt id blk hB
 have hle:Env.Le E E w w':=⟨fun b o hi=>⟨hi,World.cell?_of_block (a:=⟨b,o,none⟩) (hblk b (fun e=>hnf (b4 o (e ▸ hi))))⟩,fun _ _ h=>h,fun _ _ _ h=>h,fun id' x hx=>by
  by_cases e:x = blk
  ·subst e; exact hrows
  ·exact rowsOf_block (hblk x e)⟩
 refine ⟨⟨h.below.trans ⟨hos,htp,hout,by omega,fun k hk=>hblk k (fun e=>b2 (e ▸ hk))⟩,fun b hb'=>by have:=h.n0 b hb'; omega,fun b o hi=>by have:=h.Ilt b o hi; omega,h.Iold,fun id' b he=>?_,h.Binj,fun id' cs'' hi=>?_,h.glob.le hle,fun id' hi=>?_,h.Klt,fun t n v hk g hg=>by have hlt:=h.Kblk t n v hk g hg; omega,fun t n e ht=>?_⟩,hle⟩
 ·obtain ⟨a1,a2,a3,a4⟩:=h.Blt id' b he
  refine ⟨by simpa using a1,a2,by omega,fun o ho=>?_⟩
  by_cases e:id = id'
  ·subst e; exact absurd (a4 o ho) hnf
  ·exact (a4 o ho).set e
 ·simp only [List.getElem?_set] at hi
  by_cases e:id = id'
  ·subst e
   simp [b1] at hi
   subst hi
   exact ⟨blk,hB,hc⟩
  ·simp [e] at hi
   obtain ⟨blk',hB',hx⟩:=h.box id' cs'' hi
   exact ⟨blk',hB',hx.le (hblk blk' (fun e'=>e (h.Binj id id' blk hB (e' ▸ hB')))) hle⟩
 ·simp only [List.getElem?_set] at hi
  by_cases e:id = id'
  ·subst e
   simp [b1] at hi
  ·simp [e] at hi
   exact h.hole id' hi
 ·obtain ⟨v,xs,sz',hsz',hown,hu,hK,hg⟩:=h.live t n e ht
  refine ⟨v,xs,sz',hsz',hown.kept (row:=some blk) ⟨hos,htp,hout,by omega,fun k _ hk=>hblk k (fun e=>hk (by rw [e]))⟩ ?_,hu,hK,hg⟩
  right
  intro e'
  exact (hg blk e').2.1 id hB
theorem SR.box_new (h:SR P G N0 w0 I0 S E w) (bid:Nat) (hbid:S.boxes[bid]? = some none) (cs:List AV) (arr:Array Value) (ty:TypeId) (hr:isRow cs = true) (hn:arr.size = cs.length)
  (hc:∀ (i:Nat) (c:AV) (v:Value),cs[i]? = some c→arr[i]? = some v→Rep E w c v∧v.oneCell' = true) :
  ∃ E',SR P G N0 w0 I0 { S with boxes:=S.boxes.set bid (some cs) } E' (w.alloc (.cells arr ty))∧Env.Le E E' w (w.alloc (.cells arr ty))∧E'.B bid = some w.heap.size:=
 h.obj_new bid hbid cs _ (.row arr ty hr (heap_alloc_new w _) hn fun i c v hi hv=>⟨(hc i c v hi hv).1.le (h.le_alloc _),(hc i c v hi hv).2⟩)
theorem SR.box_set (h:SR P G N0 w0 I0 S E w) {id blk:Nat} {cs':List AV} {arr arr':Array Value} {ty:TypeId} (hB:E.B id = some blk) (hh:w.heap[blk]? = some (.cells arr ty (0,0)))
  (hr:isRow cs' = true) (hn:arr'.size = cs'.length) (hc:∀ (i:Nat) (c:AV) (v:Value),cs'[i]? = some c→arr'[i]? = some v→Rep E w c v∧v.oneCell' = true) (hnf:¬ Frz S id) (hsz:arr'.size = arr.size) :
  SR P G N0 w0 I0 { S with boxes:=S.boxes.set id (some cs') } E (w.setRow blk arr')∧Env.Le E E w (w.setRow blk arr'):=by
 have hblk:∀ k,k ≠ blk→(w.setRow blk arr').heap[k]? = w.heap[k]?:=fun k hk=>setRow_other w blk k arr' hk
 have hle:Env.Le E E w (w.setRow blk arr'):=⟨fun b o hi=>⟨hi,World.cell?_of_block (a:=⟨b,o,none⟩) (hblk b (fun e=>hnf ((h.Blt id blk hB).2.2.2 o (e ▸ hi))))⟩,fun _ _ h=>h,fun _ _ _ h=>h,fun id' x hx=>by
  by_cases e:x = blk
  ·subst e; exact rows_setRow hh hsz
  ·exact rowsOf_block (hblk x e)⟩
 exact h.obj_set hB rfl rfl rfl (by simp) hblk (.row arr' ty hr (setRow_heap w blk arr arr' ty _ hh) hn fun i c v hi hv=>⟨(hc i c v hi hv).1.le hle,(hc i c v hi hv).2⟩) hnf (rows_setRow hh hsz)
def Vals (E:Env) (w:World) (sz:Nat) (es:List AV) (vals:List Value):Prop:=
 vals.length = es.length * sz∧(∀ e ∈ es,e.cells.length = sz)∧(∀ e ∈ es,e.closed1 = true)∧(∀ u ∈ vals,u.oneCell' = true) ∧
 ∀ (i:Nat) (e:AV) (j:Nat) (c:AV),es[i]? = some e→e.cells[j]? = some c→∃ u,vals[i * sz + j]? = some u∧Rep E w c u
theorem Vals.le {E':Env} {sz:Nat} {es:List AV} {vals:List Value} (h:Vals E w sz es vals) (hl:Env.Le E E' w w'):Vals E' w' sz es vals:=
 ⟨h.1,h.2.1,h.2.2.1,h.2.2.2.1,fun i e j c hi hj=>by
  obtain ⟨u,hu,hr⟩:=h.2.2.2.2 i e j c hi hj
  exact ⟨u,hu,hr.le hl⟩⟩
theorem Vals.append {sz:Nat} {es fs:List AV} {us vs:List Value} (h:Vals E w sz es us) (k:Vals E w sz fs vs):Vals E w sz (es ++ fs) (us ++ vs):=by
 refine ⟨by rw [List.length_append,List.length_append,h.1,k.1,Nat.add_mul],fun e he=>?_,fun e he=>?_,fun u hu=>?_,fun i e j c hi hj=>?_⟩
 ·rcases List.mem_append.1 he with he | he
  ·exact h.2.1 e he
  ·exact k.2.1 e he
 ·rcases List.mem_append.1 he with he | he
  ·exact h.2.2.1 e he
  ·exact k.2.2.1 e he
 ·rcases List.mem_append.1 hu with hu | hu
  ·exact h.2.2.2.1 u hu
  ·exact k.2.2.2.1 u hu
 ·by_cases hlt:i < es.length
  ·rw [List.getElem?_append_left hlt] at hi
   obtain ⟨u,hu,hr⟩:=h.2.2.2.2 i e j c hi hj
   refine ⟨u,?_,hr⟩
   rw [List.getElem?_append_left (List.getElem?_eq_some_iff.1 hu).1]; exact hu
  ·rw [List.getElem?_append_right (by omega)] at hi
   obtain ⟨u,hu,hr⟩:=k.2.2.2.2 _ e j c hi hj
   refine ⟨u,?_,hr⟩
   have e1:i * sz + j = us.length + ((i - es.length) * sz + j):=by
    rw [h.1,Nat.sub_mul]
    have:es.length * sz≤i * sz:=Nat.mul_le_mul_right _ (by omega)
    omega
   rw [e1,List.getElem?_append_right (by omega)]
   simpa using hu
theorem Vals.rep {sz:Nat} {es:List AV} {vals:List Value} (h:Vals E w sz es vals) (g off cap:Nat) (o:Own) (hcap:es.length≤cap) (hmax:cap≤maxLen)
  (hc:∀ j u,vals[j]? = some u→E.I g (off + j)∧w.cell? ⟨g,off + j,none⟩ = some u) (ho:OwnOk E.K o es.length cap (.slice (some ⟨g,off,none⟩) es.length cap)) :
  Rep E w (.sl sz es o) (.slice (some ⟨g,off,none⟩) es.length cap):=by
 refine .sl sz es o _ cap (fun i j=>vals.getD (i * sz + j) (.bool false)) hcap hmax (.inr ⟨g,off,rfl,fun i e j c hi hj=>?_⟩) h.2.1 h.2.2.1 ho (fun i e j c hi hj=>?_) (fun i j=>?_)
 ·obtain ⟨u,hu,_⟩:=h.2.2.2.2 i e j c hi hj
  have:=hc _ u hu
  rw [Nat.add_assoc]
  refine ⟨this.1,?_⟩
  rw [this.2,List.getD_eq_getElem?_getD,hu]; rfl
 ·obtain ⟨u,hu,hr⟩:=h.2.2.2.2 i e j c hi hj
  rw [List.getD_eq_getElem?_getD,hu]; exact hr
 ·rw [List.getD_eq_getElem?_getD]
  cases hu:vals[i * sz + j]? with
  | none=>rfl
  | some u=>exact h.2.2.2.1 u (List.mem_of_getElem? hu)
theorem rep_vals {sz:Nat} {es:List AV} {o:Own} {A:Option Addr} {cap:Nat} (h:Rep E w (.sl sz es o) (.slice A es.length cap)) (hs:0 < sz) :
  ∃ vals,Vals E w sz es vals∧(∀ (w':World),(∀ p,w'.cell? p = w.cell? p)→(Builtin.firstCells sz es.length (.slice A es.length cap)).run P w' = .ok vals.toArray w') ∧
   (∀ b off,A = some ⟨b,off,none⟩→∀ j u,vals[j]? = some u→E.I b (off + j)∧w.cell? ⟨b,off + j,none⟩ = some u):=by
 cases h with | sl _ _ _ _ _ u hcap hmax hA hsz hcl ho hr hone =>
 have split:∀ k,k < es.length * sz→∃ e c,es[k / sz]? = some e∧e.cells[k % sz]? = some c:=fun k hk=>by
  have h1:k / sz < es.length:=(Nat.div_lt_iff_lt_mul hs).2 hk
  have h2:k % sz < es[k / sz].cells.length:=by rw [hsz _ (List.getElem_mem h1)]; exact Nat.mod_lt _ hs
  exact ⟨_,_,List.getElem?_eq_getElem h1,List.getElem?_eq_getElem h2⟩
 have hdm:∀ k,k / sz * sz + k % sz = k:=fun k=>by rw [Nat.mul_comm]; exact Nat.div_add_mod k sz
 have hat:∀ b off,A = some ⟨b,off,none⟩→∀ k,k < es.length * sz→E.I b (off + k)∧w.cell? ⟨b,off + k,none⟩ = some (u (k / sz) (k % sz)):=fun b off e k hk=>by
  have hne:es ≠ []:=fun e=>by subst e; simp at hk
  obtain ⟨b',off',e',hc⟩:=hA.resolve_left hne
  rw [e] at e'
  injection e' with e'; injection e' with e1 e2
  subst e1; subst e2
  obtain ⟨e,c,h1,h2⟩:=split k hk
  have:=hc _ e _ c h1 h2
  rw [Nat.add_assoc,hdm k] at this
  exact this
 refine ⟨(List.range (es.length * sz)).map fun k=>u (k / sz) (k % sz),⟨by simp,hsz,hcl,fun v hv=>?_,fun i e j c hi hj=>?_⟩,fun w' hw'=>?_,fun b off e j v hv=>?_⟩
 ·obtain ⟨k,_,rfl⟩:=List.mem_map.1 hv
  exact hone _ _
 ·have hj':j < sz:=by
   have:=(List.getElem?_eq_some_iff.1 hj).1
   rw [hsz e (List.mem_of_getElem? hi)] at this
   exact this
  have hi':i < es.length:=(List.getElem?_eq_some_iff.1 hi).1
  have hlt:i * sz + j < es.length * sz:=by
   have:(i + 1) * sz≤es.length * sz:=Nat.mul_le_mul_right _ hi'
   rw [Nat.add_mul] at this; omega
  refine ⟨u i j,?_,hr i e j c hi hj⟩
  rw [List.getElem?_map,List.getElem?_range hlt]
  have e1:(i * sz + j) / sz = i:=by rw [Nat.mul_comm,Nat.mul_add_div hs,Nat.div_eq_of_lt hj',Nat.add_zero]
  have e2:(i * sz + j) % sz = j:=by rw [Nat.mul_comm,Nat.mul_add_mod,Nat.mod_eq_of_lt hj']
  simp [e1,e2]
 ·cases A with
  | none =>
   have:es = []:=by
    rcases hA with hA | ⟨b,off,e,_⟩
    ·exact hA
    ·cases e
   subst this
   simp [Builtin.firstCells]
  | some a =>
   refine run_firstCells_some w' sz es.length a es.length cap _ (by simp) (fun j v hv=>?_)
   rcases hA with hA | ⟨b,off,e,hc⟩
   ·subst hA; simp at hv
   ·injection e with e; subst e
    rw [List.getElem?_map] at hv
    by_cases hj:j < es.length * sz
    ·rw [List.getElem?_range hj] at hv
     simp at hv; subst hv
     rw [add_plain,hw']
     exact (hat b off rfl j hj).2
    ·rw [List.getElem?_eq_none (by simpa using hj)] at hv; cases hv
 ·rw [List.getElem?_map] at hv
  by_cases hj:j < es.length * sz
  ·rw [List.getElem?_range hj] at hv
   simp at hv; subst hv
   exact hat b off e j hj
  ·rw [List.getElem?_eq_none (by simpa using hj)] at hv; cases hv
end
section
variable {P : Program} {E : Env} {w w' : World} {G : Glob} {N0 : Nat → Prop} {w0 : World} {I0 : Nat → Nat → Prop} {S : St}
theorem Rep.strip0 {a:AV} {v:Value} (h:Rep E w a v):Rep E w a.strip0 v:=by
 cases h with
 | sl sz es o A cap u hcap hmax hA hsz hcl ho hr h1 =>
  cases o with
  | tok t=>exact .sl sz es .no A cap u hcap hmax hA hsz hcl trivial hr h1
  | full=>exact .sl sz es .full A cap u hcap hmax hA hsz hcl ho hr h1
  | no=>exact .sl sz es .no A cap u hcap hmax hA hsz hcl ho hr h1
  | nil=>exact .sl sz es .nil A cap u hcap hmax hA hsz hcl ho hr h1
 | lit v h=>exact .lit v h
 | bool b=>exact .bool b
 | int k n=>exact .int k n
 | str l s h=>exact .str l s h
 | agg cs vs hn h1 h=>exact .agg cs vs hn h1 h
 | tup cs vs hn h=>exact .tup cs vs hn h
 | elt sz es i0 j0 b off u hcl hA hr h1=>exact .elt sz es i0 j0 b off u hcl hA hr h1
 | ptr b off blk h=>exact .ptr b off blk h
 | mp b blk h=>exact .mp b blk h
 | ms b sz n blk cap h h1 h2 h3=>exact .ms b sz n blk cap h h1 h2 h3
 | mel b sz i j blk h=>exact .mel b sz i j blk h
 | mst b sz i n blk cap A h hA=>exact .mst b sz i n blk cap A h hA
 | fn f cs vs hn h=>exact .fn f cs vs hn h
 | opq v h=>exact .opq v h
 | ifc t v=>exact .ifc t v
 | junk v=>exact .junk v
theorem Rep.strip1 {a:AV} {v:Value} (h:Rep E w a v):Rep E w a.strip1 v:=by
 by_cases ha:∃ cs,a = .agg cs
 ·obtain ⟨cs,rfl⟩:=ha
  cases h with | agg _ vs hn h1 h =>
  refine .agg _ vs (by simpa using hn) h1 fun i c v hi hv=>?_
  rw [List.getElem?_map] at hi
  cases hc:cs[i]? with
  | none=>simp [hc] at hi
  | some c' =>
   simp [hc] at hi; subst hi
   exact (h i c' v hc hv).strip0
 ·have:a.strip1 = a.strip0:=by cases a <;> simp_all [AV.strip1]
  rw [this]; exact h.strip0
theorem closed1_plain {a:AV} (h:a.closed1 = true):a.plain = true:=by
 cases a <;> simp_all [AV.closed1,AV.closed,AV.plain]
def CR (E:Env) (w:World) (cs:List AV) (arr:Array Value):Prop:=
 arr.size = cs.length∧∀ (i:Nat) (c:AV) (v:Value),cs[i]? = some c→arr[i]? = some v→Rep E w c v∧v.oneCell' = true
def spliceV (cells:Array Value) (off:Nat) (xs:Array Value):Array Value:=(cells.toList.take off ++ xs.toList ++ cells.toList.drop (off + xs.size)).toArray
theorem CR.splice {cs xs:List AV} {arr ys:Array Value} {o:Nat} (h:CR E w cs arr) (k:CR E w xs ys) (ho:o + xs.length≤cs.length):CR E w (spliceA cs o xs) (spliceV arr o ys):=by
 have hx:=k.1
 have ha:=h.1
 refine ⟨by simp [spliceA,spliceV]; omega,fun i c v hi hv=>?_⟩
 simp only [spliceA,List.append_assoc] at hi
 simp only [spliceV,List.append_assoc,List.getElem?_toArray] at hv
 have l1:(cs.take o).length = o:=by rw [List.length_take]; omega
 have l2:(arr.toList.take o).length = o:=by rw [List.length_take,Array.length_toList]; omega
 by_cases h1:i < o
 ·rw [List.getElem?_append_left (by omega),List.getElem?_take_of_lt h1] at hi
  rw [List.getElem?_append_left (by omega),List.getElem?_take_of_lt h1] at hv
  exact h.2 i c v hi (by simpa using hv)
 ·rw [List.getElem?_append_right (by omega),l1] at hi
  rw [List.getElem?_append_right (by omega),l2] at hv
  by_cases h2:i - o < xs.length
  ·rw [List.getElem?_append_left h2] at hi
   rw [List.getElem?_append_left (by rw [Array.length_toList]; omega)] at hv
   exact k.2 _ c v hi (by simpa using hv)
  ·rw [List.getElem?_append_right (by omega),List.getElem?_drop] at hi
   rw [List.getElem?_append_right (by rw [Array.length_toList]; omega),List.getElem?_drop,Array.length_toList] at hv
   have e1:o + xs.length + (i - o - xs.length) = i:=by omega
   have e2:o + ys.size + (i - o - ys.size) = i:=by omega
   rw [e1] at hi
   rw [e2] at hv
   exact h.2 i c v hi (by simpa using hv)
theorem set_fold (off:Nat):∀ (xs:List Value) (k:Nat) (cs:Array Value),off + k + xs.length≤cs.size →
  (xs.zipIdx k).foldl (fun cs (x:Value × Nat)=>cs.setIfInBounds (off + x.2) x.1) cs = (cs.toList.take (off + k) ++ xs ++ cs.toList.drop (off + k + xs.length)).toArray
 | [],k,cs,_=>by simp
 | x :: t,k,cs,h=>by
  simp only [List.zipIdx_cons,List.foldl_cons]
  have h':off + (k + 1) + t.length≤(cs.setIfInBounds (off + k) x).size:=by simp at h ⊢; omega
  rw [set_fold off t (k + 1) _ h']
  apply Array.ext'
  simp only [Array.toList_setIfInBounds]
  have hl:off + k < cs.toList.length:=by simp at h ⊢; omega
  have e1:(cs.toList.set (off + k) x).take (off + (k + 1)) = cs.toList.take (off + k) ++ [x]:=by
   rw [show off + (k + 1) = (off + k) + 1 by omega,List.take_add_one,List.getElem?_set_self hl,List.take_set_of_le (Nat.le_refl _)]
   rfl
  have e2:(cs.toList.set (off + k) x).drop (off + (k + 1) + t.length) = cs.toList.drop (off + k + (x :: t).length):=by
   rw [List.drop_set_of_lt (by omega)]
   congr 1
   simp; omega
  rw [e1,e2]
  simp
theorem fill_cons {place:Nat→Option (Nat × Nat)} {cells:Array Value} {i off size:Nat} {v:Value} {rest:List (Nat × Value)} (hp:place i = some (off,size)) (hs:v.cells.size = size) (ho:off + v.cells.size≤cells.size) :
  Instr.fill place cells ((i,v) :: rest) = Instr.fill place (spliceV cells off v.cells) rest:=by
 have h1:¬ (v.cells.size ≠ size || off + v.cells.size > cells.size) = true:=by simp; omega
 rw [Instr.fill]
 simp only [hp]
 rw [if_neg h1]
 congr 1
 rw [← Array.foldl_toList,Array.toList_zipIdx]
 have:=set_fold off v.cells.toList 0 cells (by simpa using ho)
 simpa [spliceV] using this
theorem Rep.cr {a:AV} {v:Value} (h:Rep E w a v) (hp:a.plain = true):CR E w a.cells v.cells:=h.cells hp
theorem fillA_run {place:Nat→Option (Nat × Nat)}:∀ (ps:List (Nat × AV)) (qs:List (Nat × Value)) (cs r:List AV) (arr:Array Value),CR E w cs arr →
  ps.length = qs.length→(∀ (i:Nat) (p:Nat × AV) (q:Nat × Value),ps[i]? = some p→qs[i]? = some q→p.1 = q.1∧Rep E w p.2 q.2)→fillA place cs ps = some r→∃ arr',Instr.fill place arr qs = some arr'∧CR E w r arr'
 | [],[],cs,r,arr,hc,_,_,h=>by
  simp [fillA] at h; subst h
  exact ⟨arr,by simp [Instr.fill],hc⟩
 | (i,a) :: ps,(i',v) :: qs,cs,r,arr,hc,hl,hr,h=>by
  obtain ⟨e,hav⟩:=hr 0 _ _ rfl rfl
  simp only at e hav
  subst e
  simp only [fillA] at h
  split at h
  ·cases h
  ·rename_i off size hp
   split at h
   ·rename_i hh
    obtain ⟨h1,h2,h3⟩:=hh
    have hcr:=hav.cr h1
    have hsz:v.cells.size = size:=by rw [hcr.1]; exact h2
    rw [fill_cons hp hsz (by rw [hcr.1,hc.1]; exact h3)]
    exact fillA_run ps qs _ r _ (hc.splice hcr h3) (by simpa using hl) (fun k p q hp hq=>hr (k + 1) p q (by simpa using hp) (by simpa using hq)) h
   ·cases h
 | [],_ :: _,_,_,_,_,hl,_,_=>by simp at hl
 | _ :: _,[],_,_,_,_,hl,_,_=>by simp at hl
def PR (E:Env) (w:World) (ps:List (Nat × AV)) (qs:List (Nat × Value)):Prop:=
 ps.length = qs.length∧∀ (i:Nat) (p:Nat × AV) (q:Nat × Value),ps[i]? = some p→qs[i]? = some q→p.1 = q.1∧Rep E w p.2 q.2
theorem mapM_places (fs:List Field) (h:fs.all (fun f=>(sizeA P f.type).isSome) = true):(fs.mapM fun f=>(do pure (f.offset,← sizeOf f.type):Sem (Nat × Nat))).run P w = .ok (fs.map fun f=>(f.offset,(sizeA P f.type).getD 0)) w:=by
 induction fs with
 | nil=>rfl
 | cons f fs ih =>
  simp only [List.all_cons,Bool.and_eq_true] at h
  obtain ⟨s,hs⟩:=Option.isSome_iff_exists.1 h.1
  simp only [List.mapM_cons,Sem.run_bind,run_sizeOf' hs,Result.andThen_ok,Sem.run_pure,ih h.2,List.map_cons,hs,Option.getD_some]
theorem buildA_run {t:TypeId} {ps:List (Nat × AV)} {qs:Array (Nat × Value)} {r:AV} (h:buildA P t ps = some r) (hp:PR E w ps qs.toList):∃ v,(Instr.build t qs).run P w = .ok v w∧Rep E w r v:=by
 unfold buildA at h
 split at h
 ·rename_i z fs hz hu
  split at h
  ·rename_i hh
   obtain ⟨h1,h2⟩:=hh
   cases hf:fillA (fun i=>(fs[i]?).map fun f=>(f.offset,(sizeA P f.type).getD 0)) (z.cells.toList.map absV0) ps with
   | none=>simp [hf] at h
   | some cs =>
    simp [hf] at h; subst h
    rw [List.all_eq_true] at h1
    have hc0:CR E w (z.cells.toList.map absV0) z.cells:=⟨by simp,fun i c v hi hv=>⟨absV0_map hi (by simpa using hv),h1 v (by simpa using Array.mem_of_getElem? hv)⟩⟩
    obtain ⟨arr,hfill,hcr⟩:=fillA_run ps qs.toList _ cs z.cells hc0 hp.1 hp.2 hf
    refine ⟨.agg arr,?_,.agg cs arr hcr.1 (fun i v hv=>?_) (fun i c v hi hv=>(hcr.2 i c v hi hv).1)⟩
    ·have hm:=mapM_places (P:=P) (w:=w) fs.toList h2
     have hm':(fs.mapM fun f=>(do pure (f.offset,← sizeOf f.type):Sem (Nat × Nat))).run P w = .ok (fs.toList.map fun f=>(f.offset,(sizeA P f.type).getD 0)).toArray w:=by
      rw [Array.mapM_eq_mapM_toList,Sem.run_map,hm]
      rfl
     have e:(fun i:Nat=>((fs.toList.map fun f=>(f.offset,(sizeA P f.type).getD 0)).toArray)[i]?) = fun i=>(fs[i]?).map fun f=>(f.offset,(sizeA P f.type).getD 0):=by
      funext i; simp
     simp only [Instr.build,Sem.run_bind,run_zero hz,Result.andThen_ok,run_underlying hu,hm',e,hfill,Sem.run_pure]
    ·have hi:i < cs.length:=by
      have:=(Array.getElem?_eq_some_iff.1 hv).1
      rw [hcr.1] at this; exact this
     exact (hcr.2 i cs[i] v (List.getElem?_eq_getElem hi) hv).2
  ·cases h
 ·rename_i z n e hz hu
  split at h
  ·rename_i h1
   split at h
   ·rename_i s hs
    cases hf:fillA (fun i=>some (i * s,s)) (z.cells.toList.map absV0) ps with
    | none=>simp [hf] at h
    | some cs =>
     simp [hf] at h; subst h
     rw [List.all_eq_true] at h1
     have hc0:CR E w (z.cells.toList.map absV0) z.cells:=⟨by simp,fun i c v hi hv=>⟨absV0_map hi (by simpa using hv),h1 v (by simpa using Array.mem_of_getElem? hv)⟩⟩
     obtain ⟨arr,hfill,hcr⟩:=fillA_run ps qs.toList _ cs z.cells hc0 hp.1 hp.2 hf
     refine ⟨.agg arr,?_,.agg cs arr hcr.1 (fun i v hv=>?_) (fun i c v hi hv=>(hcr.2 i c v hi hv).1)⟩
     ·simp only [Instr.build,Sem.run_bind,run_zero hz,Result.andThen_ok,run_underlying hu,run_sizeOf' hs,hfill,Sem.run_pure]
     ·have hi:i < cs.length:=by
       have:=(Array.getElem?_eq_some_iff.1 hv).1
       rw [hcr.1] at this; exact this
      exact (hcr.2 i cs[i] v (List.getElem?_eq_getElem hi) hv).2
   ·cases h
  ·cases h
 ·cases h
end
section
variable {P : Program} {E : Env} {w w' : World} {G : Glob} {N0 : Nat → Prop} {w0 : World} {I0 : Nat → Nat → Prop} {S : St}
theorem strip1_cells (a:AV):a.strip1.cells.length = a.cells.length:=by
 cases a with
 | sl sz es o=>cases o <;> rfl
 | agg cs=>simp [AV.strip1,AV.cells]
 | _=>rfl
theorem Vals.nil (sz:Nat):Vals E w sz [] []:=⟨by simp,by simp,by simp,by simp,fun i e j c hi=>by simp at hi⟩
theorem Vals.one {s:Nat} {a:AV} {v:Value} (h:Rep E w a v) (hc:a.strip1.closed1 = true) (hl:a.cells.length = s):Vals E w s [a.strip1] v.cells.toList:=by
 have hcr:=h.strip1.cr (closed1_plain hc)
 have h2:=strip1_cells a
 refine ⟨by rw [Array.length_toList,hcr.1,h2,hl]; simp,fun e he=>by simp at he; subst he; omega,fun e he=>by simp at he; subst he; exact hc,fun u hu=>?_,fun i e j c hi hj=>?_⟩
 ·obtain ⟨i,hi⟩:=List.mem_iff_getElem?.1 hu
  rw [Array.getElem?_toList] at hi
  have hlt:i < a.strip1.cells.length:=by
   have:=(Array.getElem?_eq_some_iff.1 hi).1
   rw [hcr.1] at this; exact this
  exact (hcr.2 i _ u (List.getElem?_eq_getElem hlt) hi).2
 ·match i,hi with
  | 0,hi =>
   simp at hi; subst hi
   have hlt:j < v.cells.size:=by
    have:=(List.getElem?_eq_some_iff.1 hj).1
    rw [hcr.1]; exact this
   refine ⟨v.cells[j],by simp [hlt],(hcr.2 j c _ hj (Array.getElem?_eq_getElem hlt)).1⟩
  | i + 1,hi=>simp at hi
theorem Vals.parts {s:Nat}:∀ (ps:List (Nat × AV)) (qs:List (Nat × Value)),PR E w ps qs→(∀ p ∈ ps,p.2.strip1.closed1 = true∧p.2.cells.length = s) →
  Vals E w s (ps.map fun p=>p.2.strip1) (qs.flatMap fun q=>q.2.cells.toList)
 | [],[],_,_=>Vals.nil s
 | p :: ps,q :: qs,h,hc=>by
  have h0:=h.2 0 p q rfl rfl
  have h1:=Vals.one h0.2 (hc p (by simp)).1 (hc p (by simp)).2
  have h2:=Vals.parts ps qs ⟨by simpa using h.1,fun i p q hp hq=>h.2 (i + 1) p q (by simpa using hp) (by simpa using hq)⟩ fun p hp=>hc p (by simp [hp])
  simpa using h1.append h2
 | [],_ :: _,h,_=>by have:=h.1; simp at this
 | _ :: _,[],h,_=>by have:=h.1; simp at this
theorem fill_row {s:Nat}:∀ (qs:List (Nat × Value)) (k:Nat) (pre post:List Value),qs.map (·.1) = (List.range' k qs.length)→(∀ q ∈ qs,q.2.cells.size = s)→pre.length = k * s→post.length = qs.length * s →
  Instr.fill (fun i=>some (i * s,s)) (pre ++ post).toArray qs = some (pre ++ qs.flatMap fun q=>q.2.cells.toList).toArray
 | [],k,pre,post,_,_,_,hp=>by
  have:post = []:=List.eq_nil_of_length_eq_zero (by simpa using hp)
  subst this
  simp [Instr.fill]
 | (i,v) :: qs,k,pre,post,hi,hs,h1,h2=>by
  simp only [List.map_cons,List.length_cons,List.range'_succ,List.cons.injEq] at hi
  obtain ⟨rfl,hi⟩:=hi
  have hv:v.cells.size = s:=hs (i,v) (by simp)
  have h2':post.length = qs.length * s + s:=by rw [h2,List.length_cons,Nat.add_mul]; simp
  rw [fill_cons (off:=i * s) (size:=s) rfl hv (by simp; omega)]
  have e:spliceV (pre ++ post).toArray (i * s) v.cells = ((pre ++ v.cells.toList) ++ post.drop s).toArray:=by
   unfold spliceV
   rw [List.toList_toArray,← h1,List.take_left,hv]
   congr 2
   rw [List.drop_append]
   simp
  rw [e,fill_row qs (i + 1) (pre ++ v.cells.toList) (post.drop s) hi (fun q hq=>hs q (by simp [hq])) (by simp [h1,hv,Nat.add_mul]) (by simp; omega)]
  simp
theorem buildSliceA_run (hS:SR P G N0 w0 I0 S E w) {t:TypeId} {len:Nat} {ps:List (Nat × AV)} {qs:Array (Nat × Value)} {r:AV} (h:buildSliceA P t len ps = some r) (hp:PR E w ps qs.toList) :
  ∃ v w' E',(Instr.buildSlice t len qs).run P w = .ok v w'∧SR P G N0 w0 I0 S E' w'∧Env.Le E E' w w'∧Rep E' w' r v:=by
 unfold buildSliceA at h
 split at h
 ·rename_i e hu
  split at h
  ·rename_i s hs
   split at h
   ·rename_i hh
    obtain ⟨hi,hlen,hlen2,hz,hall⟩:=hh
    simp at h; subst h
    obtain ⟨z,hz⟩:=Option.isSome_iff_exists.1 hz
    rw [List.all_eq_true] at hall
    have hall':∀ p ∈ ps,p.2.strip1.closed1 = true∧p.2.cells.length = s:=fun p hp=>by
     have:=hall p hp
     simpa using this
    have hv:=Vals.parts ps qs.toList hp hall'
    have hps:ps.length = len:=by have:=congrArg List.length hi; simpa using this
    have hqi:qs.toList.map (·.1) = List.range' 0 qs.toList.length:=by
     rw [← List.range_eq_range',← hp.1,hps,← hi]
     apply List.ext_getElem?
     intro k
     rw [List.getElem?_map,List.getElem?_map]
     cases hk:ps[k]? with
     | none =>
      have:¬ k < qs.toList.length:=by rw [← hp.1]; intro h'; rw [List.getElem?_eq_getElem h'] at hk; cases hk
      rw [List.getElem?_eq_none (by omega)]
      rfl
     | some p =>
      have hlt:k < qs.toList.length:=by rw [← hp.1]; exact (List.getElem?_eq_some_iff.1 hk).1
      rw [List.getElem?_eq_getElem hlt]
      have:=(hp.2 k p _ hk (List.getElem?_eq_getElem hlt)).1
      simp [this]
    have hqs:∀ q ∈ qs.toList,q.2.cells.size = s:=fun q hq=>by
     obtain ⟨k,hk⟩:=List.mem_iff_getElem?.1 hq
     have hlt:k < ps.length:=by rw [hp.1]; exact (List.getElem?_eq_some_iff.1 hk).1
     have h0:=hp.2 k _ q (List.getElem?_eq_getElem hlt) hk
     have hc:=hall' ps[k] (List.getElem_mem hlt)
     have:=h0.2.strip1.cr (closed1_plain hc.1)
     rw [this.1,strip1_cells]; exact hc.2
    have hfill:∀ (z:Array Value),Instr.fill (fun i=>some (i * s,s)) ((Array.range (len * s)).map (z[· % z.size]!)) qs.toList = some (qs.toList.flatMap fun q=>q.2.cells.toList).toArray:=fun z=>by
     have:=fill_row (s:=s) qs.toList 0 [] ((Array.range (len * s)).map (z[· % z.size]!)).toList hqi hqs (by simp) (by simp [← hp.1,hps])
     simpa only [List.nil_append,Array.toArray_toList] using this
    have hlen':¬ len * s > 2 ^ 24:=by omega
    have hrun:(Instr.buildSlice t len qs).run P w = .ok (.slice (some ⟨w.heap.size,0,none⟩) len len) (w.alloc (.cells (qs.toList.flatMap fun q=>q.2.cells.toList).toArray e)):=by
     unfold Instr.buildSlice
     simp only [Sem.run_bind,run_underlying hu,run_sizeOf' hs,Result.andThen_ok]
     rw [if_neg hlen']
     by_cases h0:len * s = 0
     ·simp only [h0,if_true,Sem.run_bind,Sem.run_pure,Result.andThen_ok]
      have:=hfill #[]
      rw [h0] at this
      rw [this]
      rfl
     ·simp only [h0,if_false,Sem.run_bind,run_zero hz,Sem.run_pure,Result.andThen_ok,hfill]
      rfl
    obtain ⟨hS',hle⟩:=hS.ext (w':=w.alloc (.cells (qs.toList.flatMap fun q=>q.2.cells.toList).toArray e)) (below_alloc w _) (I':=fun b o=>E.I b o∨(b = w.heap.size)) (fun b o h=>.inl h) (fun b o h=>h.imp id fun e=>by subst e; simp)
    refine ⟨_,_,_,hrun,hS',hle,?_⟩
    have hv':=hv.le hle
    have hl:(ps.map fun p=>p.2.strip1).length = len:=by simpa using hps
    have:=hv'.rep w.heap.size 0 len .full (by omega) (by simp only [maxLen]; omega) (fun j u hj=>⟨.inr rfl,by
      rw [Nat.zero_add,World.cell?_alloc_new]; simpa using hj⟩) (by simp [OwnOk,hl])
    rw [hl] at this
    exact this
   ·cases h
  ·cases h
 ·cases h
end
section
variable {P : Program} {E : Env} {w w' : World} {G : Glob} {N0 : Nat → Prop} {w0 : World} {I0 : Nat → Nat → Prop} {S : St}
theorem SR.tok (h:SR P G N0 w0 I0 S E w) (k g n' sz:Nat) (e:TypeId) (v':Value) (xs':List Value) (l':List (Nat × TypeId))
  (hos:w'.os = w.os) (htape:w'.tape = w.tape) (hout:w'.output = w.output) (hsize:w.heap.size≤w'.heap.size)
  (hw:∀ b,b < w.heap.size→b ≠ g→w'.heap[b]? = w.heap[b]?) (hcell:∀ o,E.I g o→w'.cell? ⟨g,o,none⟩ = w.cell? ⟨g,o,none⟩) (hg0:¬ N0 g) (hgs:g < w'.heap.size)
  (hgB:∀ id,E.B id ≠ some g) (hgK:∀ t' n'' v'',E.K t' n'' v''→v''.ownBlock = some g→t' = k) (hgI:∀ o,E.I g o→o < n' * sz)
  (hkey:∀ n v,E.K k n v→n < n') (hl:l'[k]? = some (n',e)) (hl':∀ t,t ≠ k→l'[t]? = S.live[t]?)
  (hs:sizeA P e = some sz) (hown:ownsQ w' N0 e sz v' n' xs') (hv:v'.ownBlock = some g) :
  SR P G N0 w0 I0 { S with live:=l' } ⟨fun b o=>E.I b o∨(b = g∧o < n' * sz),E.B,fun t n v=>E.K t n v∨(t = k∧n = n'∧v = v')⟩ w' ∧
   Env.Le E ⟨fun b o=>E.I b o∨(b = g∧o < n' * sz),E.B,fun t n v=>E.K t n v∨(t = k∧n = n'∧v = v')⟩ w w':=by
 have hle:Env.Le E ⟨fun b o=>E.I b o∨(b = g∧o < n' * sz),E.B,fun t n v=>E.K t n v∨(t = k∧n = n'∧v = v')⟩ w w':=by
  refine ⟨fun b o hi=>⟨.inl hi,?_⟩,fun _ _ h=>h,fun _ _ _ h=>.inl h,fun id x hx=>rowsOf_block (hw x (h.Blt id x hx).2.2.1 (fun e=>hgB id (e ▸ hx)))⟩
  by_cases hb:b = g
  ·subst hb; exact hcell o hi
  ·exact World.cell?_of_block (a:=⟨b,o,none⟩) (hw b (h.Ilt b o hi) hb)
 refine ⟨⟨h.below.trans ⟨hos,htape,hout,hsize,fun b hb=>hw b (h.n0 b hb) (fun e=>hg0 (e ▸ hb))⟩,fun b hb=>Nat.lt_of_lt_of_le (h.n0 b hb) hsize,fun b o hi=>?_,fun b o hi hlt=>hi.elim (fun h'=>h.Iold b o h' hlt) (fun h'=>absurd hlt (h'.1 ▸ hg0)),fun id b he=>?_,h.Binj,fun id cs hi=>?_,h.glob.le hle,h.hole,fun t n v ht=>?_,fun t n v hk=>?_,fun t n e' ht=>?_⟩,hle⟩
 ·rcases hi with hi | ⟨rfl,_⟩
  ·exact Nat.lt_of_lt_of_le (h.Ilt b o hi) hsize
  ·exact hgs
 ·obtain ⟨a1,a2,a3,a4⟩:=h.Blt id b he
  refine ⟨a1,a2,Nat.lt_of_lt_of_le a3 hsize,fun o ho=>?_⟩
  rcases ho with ho | ⟨rfl,_⟩
  ·exact a4 o ho
  ·exact absurd he (hgB id)
 ·obtain ⟨blk,hB,hx⟩:=h.box id cs hi
  exact ⟨blk,hB,hx.le (hw blk (h.Blt id blk hB).2.2.1 (fun e=>hgB id (e ▸ hB))) hle⟩
 ·rcases ht with ht | ⟨rfl,rfl,rfl⟩
  ·by_cases hk:t = k
   ·subst hk
    exact ⟨n',e,hl,Nat.le_of_lt (hkey n v ht)⟩
   ·obtain ⟨m,e',hm,hle'⟩:=h.Klt t n v ht
    exact ⟨m,e',by rw [hl' t hk]; exact hm,hle'⟩
  ·exact ⟨n,e,hl,Nat.le_refl _⟩
 ·rcases hk with hk | ⟨_,_,rfl⟩
  ·exact fun g2 hg2=>Nat.lt_of_lt_of_le (h.Kblk t n v hk g2 hg2) hsize
  ·intro g2 hg2; rw [hv] at hg2; injection hg2 with hg2; subst hg2; exact hgs
 ·have ht0:l'[t]? = some (n,e'):=ht
  by_cases hk:t = k
  ·subst hk
   rw [hl] at ht0
   injection ht0 with ht0
   obtain ⟨rfl,rfl⟩:n' = n∧e = e':=by injection ht0; constructor <;> assumption
   refine ⟨v',xs',sz,hs,hown,fun v'' hk''=>?_,.inr ⟨rfl,rfl,rfl⟩,fun g' hg'=>?_⟩
   ·rcases hk'' with hk'' | ⟨_,_,e⟩
    ·have:=hkey _ _ hk''; omega
    ·exact e
   ·rw [hv] at hg'; injection hg' with hg'; subst hg'
    refine ⟨fun o ho=>?_,hgB,fun t' n'' v'' hk'' ho=>?_⟩
    ·rcases ho with ho | ⟨_,ho⟩
     ·exact hgI o ho
     ·exact ho
    ·rcases hk'' with hk'' | ⟨e,_,_⟩
     ·exact hgK _ _ _ hk'' ho
     ·exact e
  ·rw [hl' t hk] at ht0
   obtain ⟨v,xs,sz2,hsz,hown2,hu,hK,hgg⟩:=h.live t n e' ht0
   have hne:∀ g2,v.ownBlock = some g2→g2 ≠ g:=fun g2 h2 e=>hk (hgK t n v hK (e ▸ h2))
   refine ⟨v,xs,sz2,hsz,hown2.kept (row:=some g) ⟨hos,htape,hout,hsize,fun b hb hne=>hw b hb (fun e=>hne (by rw [e]))⟩ (by
    cases hvb:v.ownBlock with
    | none=>exact .inl rfl
    | some g2=>exact .inr (fun e=>hne g2 hvb (by injection e))),fun v'' hk''=>?_,.inl hK,fun g2 hg2=>?_⟩
   ·rcases hk'' with hk'' | ⟨e,_,_⟩
    ·exact hu _ hk''
    ·exact absurd e hk
   ·obtain ⟨a1,a2,a3⟩:=hgg g2 hg2
    refine ⟨fun o ho=>?_,a2,fun t' n'' v'' hk'' ho=>?_⟩
    ·rcases ho with ho | ⟨e,_⟩
     ·exact a1 o ho
     ·exact absurd e (hne g2 hg2)
    ·rcases hk'' with hk'' | ⟨_,_,e⟩
     ·exact a3 _ _ _ hk'' ho
     ·subst e; rw [hv] at ho; injection ho with ho; exact absurd ho.symm (hne g2 hg2)
theorem run_append_zero {t tx ty e:TypeId} {i:TypeInfo} (ht:P.underlying t = some (.slice e)) (hi:P.info? e = some i) (A:Option Addr) (n cap:Nat) (x:Value) (hn:n≤cap) (hs:Src P i.size tx x 0 [] w) :
  (Builtin.append_ #[t,tx] ty #[.slice A n cap,x]).run P w = .ok (.slice A n cap) w:=by
 rcases hs.kind with ⟨e',hk⟩ | hk <;> cases A <;> simp [Builtin.append_,run_underlying ht,run_underlying hk,sizeOf,typeInfo,hi,hs.len,hn,hs.cells,storeCells]
theorem run_append_room_row {t tx ty e:TypeId} {i:TypeInfo} (ht:P.underlying t = some (.slice e)) (hi:P.info? e = some i) (g sLen sCap:Nat) (cur:Array Value) (hg:w.heap[g]? = some (.cells cur e (0,0)))
  (x:Value) (m:Nat) (news:List Value) (hs:Src P i.size tx x m news w) (hroom:sLen + m≤sCap) (hfit:sLen * i.size + news.length≤cur.size) :
  (Builtin.append_ #[t,tx] ty #[.slice (some ⟨g,0,none⟩) sLen sCap,x]).run P w =
   .ok (.slice (some ⟨g,0,none⟩) (sLen + m) sCap) (w.setRow g (cur.toList.take (sLen * i.size) ++ news ++ cur.toList.drop (sLen * i.size + news.length)).toArray):=by
 have hst:=run_storeCells_at P g (sLen * i.size) e news 0 cur w hg (by simpa using hfit) hs.one
 simp only [Nat.add_zero] at hst
 rcases hs.kind with ⟨e',hk⟩ | hk <;> simp [Builtin.append_,run_underlying ht,run_underlying hk,sizeOf,typeInfo,hi,hs.len,hroom,hs.cells,Addr.add_lit,hst]
theorem srcA_run {tx:TypeId} {s:Nat} {y:AV} {ys:List AV} {vy:Value} (h:srcA P tx s y = some ys) (hy:Rep E w y vy) (hs:0 < s):∃ news,Src P s tx vy ys.length news w∧Vals E w s ys news:=by
 unfold srcA at h
 split at h
 ·rename_i e' sz es o hu
  split at h
  ·rename_i hc
   simp at h; subst h
   obtain ⟨A,cap,rfl,hcap⟩:=rep_slice_shape hy
   by_cases he:es = []
   ·subst he
    refine ⟨[],⟨.inl ⟨e',hu⟩,fun _=>rfl,?_,?_,by simp,by simp⟩,Vals.nil s⟩ <;> (cases A <;> simp [Builtin.firstCells,loadCells,loadCellsFrom])
   ·obtain rfl:sz = s:=hc.resolve_right he
    obtain ⟨vals,hv,hf,_⟩:=rep_vals hy hs
    exact ⟨vals,⟨.inl ⟨e',hu⟩,fun _=>rfl,hf w fun _=>rfl,hf w.drew fun _=>rfl,hv.1,hv.2.2.2.1⟩,hv⟩
  ·cases h
 ·rename_i l hu
  split at h
  ·rename_i hc
   subst hc
   simp at h; subst h
   cases hy with | str _ bs hb =>
   subst hb
   have h0:=Src.ofString (P:=P) w hu bs
   have hl:(bs.data.toList.map fun c=>AV.int .u8 c.toNat).length = bs.size:=by rw [List.length_map,size_data]
   refine ⟨byteCells bs,by rw [hl]; exact h0,by rw [byteCells_length,hl,Nat.mul_one],fun e he=>?_,fun e he=>?_,h0.one,fun i e j c hi hj=>?_⟩
   ·obtain ⟨_,_,rfl⟩:=List.mem_map.1 he; rfl
   ·obtain ⟨_,_,rfl⟩:=List.mem_map.1 he; rfl
   ·rw [List.getElem?_map] at hi
    cases hk:bs.data.toList[i]? with
    | none=>simp [hk] at hi
    | some b =>
     simp only [hk,Option.map_some,Option.some.injEq] at hi
     subst hi
     match j,hj with
     | 0,hj =>
      simp only [AV.cells,List.getElem?_cons_zero,Option.some.injEq] at hj
      subst hj
      refine ⟨.int .u8 b.toNat,?_,.int _ _⟩
      simp [byteCells] at hk ⊢
      exact ⟨b,hk,rfl⟩
     | j + 1,hj=>simp [AV.cells] at hj
  ·cases h
 ·cases h
theorem I_lt_size (h:SR P G N0 w0 I0 S E w) (o:Nat):¬ E.I w.heap.size o:=fun hi=>by have:=h.Ilt _ _ hi; omega
theorem owns_new {w:World} {e:TypeId} {sz n cap:Nat} {N0:Nat→Prop} {xs:List Value} {rest:Array Value} {o:World} (ho:o.heap = w.heap) (h0:∀ b,N0 b→b < w.heap.size) (hl:xs.length = n * sz) (hc:n≤cap) (hm:cap≤maxLen) (hr:rest.size = (cap - n) * sz) :
  ownsQ (o.alloc (.cells (xs.toArray ++ rest) e)) N0 e sz (.slice (some ⟨w.heap.size,0,none⟩) n cap) n xs:=by
 refine ⟨?_,fun g hg hq=>by simp only [Value.ownBlock,Option.some.injEq] at hg; subst hg; exact Nat.lt_irrefl _ (h0 _ hq)⟩
 refine ⟨hl,.inr ⟨w.heap.size,cap,_,rfl,Nat.zero_le _,by rw [← ho]; exact heap_alloc_new o _,hc,hm,?_,?_⟩⟩
 ·simp only [Array.size_append,List.size_toArray,hl,hr,← Nat.add_mul]
  congr 1; omega
 ·simp only [Array.toList_append]
  rw [← hl]; exact List.take_left
theorem rep_weak {sz:Nat} {es:List AV} {o:Own} {v:Value} (h:Rep E w (.sl sz es o) v):Rep E w (.sl sz es o.weak) v:=by
 cases h with | sl _ _ _ A cap u hcap hmax hA hsz hcl ho hr h1 =>
 refine .sl sz es o.weak A cap u hcap hmax hA hsz hcl ?_ hr h1
 cases o with
 | nil=>simp only [OwnOk] at ho; injection ho with _ h2 h3; simp only [Own.weak,OwnOk]; omega
 | full=>exact ho
 | no=>trivial
 | tok t=>exact ho
theorem SR.mint (h:SR P G N0 w0 I0 S E w) {e:TypeId} {sz:Nat} (hs:sizeA P e = some sz) :
  SR P G N0 w0 I0 { S with live:=S.live ++ [(0,e)] } ⟨E.I,E.B,fun t n v=>E.K t n v∨(t = S.live.length∧n = 0∧v = .slice none 0 0)⟩ w ∧
   Env.Le E ⟨E.I,E.B,fun t n v=>E.K t n v∨(t = S.live.length∧n = 0∧v = .slice none 0 0)⟩ w w:=by
 have hle:Env.Le E ⟨E.I,E.B,fun t n v=>E.K t n v∨(t = S.live.length∧n = 0∧v = .slice none 0 0)⟩ w w:=⟨fun _ _ h=>⟨h,rfl⟩,fun _ _ h=>h,fun _ _ _ h=>.inl h,fun _ _ _=>rfl⟩
 have hlt:∀ t n v,E.K t n v→t < S.live.length:=fun t n v hk=>by
  obtain ⟨m,e',hm,_⟩:=h.Klt t n v hk
  exact (List.getElem?_eq_some_iff.1 hm).1
 refine ⟨⟨h.below,h.n0,h.Ilt,h.Iold,h.Blt,h.Binj,fun id cs hi=>?_,h.glob.le hle,h.hole,fun t n v hk=>?_,fun t n v hk g hg=>?_,fun t n e' ht=>?_⟩,hle⟩
 ·obtain ⟨blk,hB,hx⟩:=h.box id cs hi
  exact ⟨blk,hB,hx.le rfl hle⟩
 ·rcases hk with hk | ⟨rfl,rfl,rfl⟩
  ·obtain ⟨m,e',hm,hle'⟩:=h.Klt t n v hk
   exact ⟨m,e',by rw [List.getElem?_append_left (hlt t n v hk)]; exact hm,hle'⟩
  ·exact ⟨0,e,by simp,Nat.le_refl _⟩
 ·rcases hk with hk | ⟨rfl,rfl,rfl⟩
  ·exact h.Kblk t n v hk g hg
  ·simp [Value.ownBlock] at hg
 ·by_cases htl:t < S.live.length
  ·simp only [] at ht
   rw [List.getElem?_append_left htl] at ht
   obtain ⟨v,xs,sz',h1,h2,h3,h4,h5⟩:=h.live t n e' ht
   refine ⟨v,xs,sz',h1,h2,fun v' hk=>?_,.inl h4,fun g hg=>⟨(h5 g hg).1,(h5 g hg).2.1,fun t' n' v' hk hg'=>?_⟩⟩
   ·rcases hk with hk | ⟨rfl,_,_⟩
    ·exact h3 v' hk
    ·omega
   ·rcases hk with hk | ⟨_,_,rfl⟩
    ·exact (h5 g hg).2.2 t' n' v' hk hg'
    ·simp [Value.ownBlock] at hg'
  ·have ht1:t = S.live.length:=by
    have:=(List.getElem?_eq_some_iff.1 ht).1
    simp at this; omega
   subst ht1
   simp at ht
   obtain ⟨rfl,rfl⟩:=ht
   refine ⟨.slice none 0 0,[],sz,hs,⟨⟨by simp,.inl ⟨rfl,rfl⟩⟩,fun g hg=>by simp [Value.ownBlock] at hg⟩,fun v' hk=>?_,.inr ⟨rfl,rfl,rfl⟩,fun g hg=>?_⟩
   ·rcases hk with hk | ⟨_,_,rfl⟩
    ·exact absurd (hlt _ _ _ hk) (by omega)
    ·rfl
   ·simp [Value.ownBlock] at hg
theorem appendA_run (hS:SR P G N0 w0 I0 S E w) {t tx ty:TypeId} {x y r:AV} {S':St} {vx vy:Value} (h:appendA P S t tx x y = some (r,S')) (hx:Rep E w x vx) (hy:Rep E w y vy) :
    ∃ v w' E',(Builtin.append_ #[t,tx] ty #[vx,vy]).run P w = .ok v w'∧SR P G N0 w0 I0 S' E' w'∧Env.Le E E' w w'∧Rep E' w' r v:=by
  unfold appendA at h
  split at h
  · rename_i e hu
    split at h
    · rename_i i sz es o hi
      split at h
      · rename_i hc
        obtain ⟨hsz,hs,hz⟩:=hc
        obtain ⟨A,cap,rfl,hcap⟩:=rep_slice_shape hx
        cases hz0:i.zero with
        | none=>simp [hz0] at hz
        | some z =>
        simp only [hz0,Option.map_some,Option.some.injEq] at hz
        split at h
        · rename_i ys hys
          obtain ⟨news,hsrc,hvn⟩:=srcA_run hys hy hs
          split at h
          · rename_i hroom
            have hroom':(es.length + ys.length) * i.bytes + (es.length + ys.length)≤70368744177664:=by
              have:(es.length + ys.length) * (i.bytes + 1)≤70368744177664:=hroom
              rw [Nat.mul_add] at this; omega
            split at h
            · rename_i hnil
              subst hnil
              simp at h
              obtain ⟨rfl,rfl⟩:=h
              have hn:news = []:=List.eq_nil_of_length_eq_zero (by have:=hvn.1; simpa using this)
              subst hn
              exact ⟨_,w,E,run_append_zero hu hi A es.length cap vy hcap hsrc,hS,Env.Le.refl E w,hx⟩
            · rename_i hne
              have hpos:0 < ys.length:=List.length_pos_iff.2 hne
              -- the old cells
              have hold:∃ vals,Vals E w i.size es vals∧(Builtin.firstCells i.size es.length (.slice A es.length cap)).run P w.drew = .ok vals.toArray w.drew ∧
                  ∀ b off,A = some ⟨b,off,none⟩→∀ j u,vals[j]? = some u→E.I b (off + j)∧w.cell? ⟨b,off + j,none⟩ = some u:=by
                by_cases he:es = []
                · subst he
                  refine ⟨[],Vals.nil _,?_,by simp⟩
                  cases A <;> simp [Builtin.firstCells,loadCells,loadCellsFrom]
                · obtain rfl : sz = i.size := hsz.resolve_right he
                  obtain ⟨vals,hv,hf,hat⟩:=rep_vals hx hs
                  exact ⟨vals,hv,hf w.drew fun _=>rfl,hat⟩
              obtain ⟨olds,hvo,hfo,hat⟩:=hold
              have happ:Vals E w i.size (es ++ ys) (olds ++ news):=hvo.append hvn
              have hlen:(es ++ ys).length = es.length + ys.length:=List.length_append
              -- a new row
              have grow:∀ (k:Nat) (l':List (Nat × TypeId)),cap < es.length + ys.length→(∀ n v,E.K k n v→n < es.length + ys.length)→l'[k]? = some (es.length + ys.length,e)→(∀ t,t ≠ k→l'[t]? = S.live[t]?) →
                  ∃ v w' E',(Builtin.append_ #[t,tx] ty #[.slice A es.length cap,vy]).run P w = .ok v w'∧SR P G N0 w0 I0 { S with live:=l' } E' w'∧Env.Le E E' w w'∧Rep E' w' (.sl i.size (es ++ ys) (.tok k)) v:=by
                intro k l' hgt hkey hl hl'
                have hfit:=growslice_fits (need:=es.length + ys.length) (old:=cap) (bytes:=i.bytes) hgt (by omega)
                have hrun:=run_append_grow_src (P:=P) w t tx ty e i z hu hi hz0 A es.length cap olds hfo vy ys.length news hsrc hgt (by omega) hfit
                have hge:=grownCap_ge w (es.length + ys.length) cap e
                have hle:=grownCap_le_maxLen w (es.length + ys.length) cap e (by simp only [maxLen]; omega)
                obtain ⟨hS',hL⟩:=hS.tok (w':=w.drew.alloc (.cells ((olds ++ news).toArray ++ Builtin.zeroCells z.cells (grownCap w (es.length + ys.length) cap e - (es.length + ys.length))) e)) k w.heap.size (es.length + ys.length) i.size e
                  (.slice (some ⟨w.heap.size,0,none⟩) (es.length + ys.length) (grownCap w (es.length + ys.length) cap e)) (olds ++ news) l' rfl rfl rfl (by simp) (fun b hb _=>heap_alloc_old w.drew _ b hb)
                  (fun o ho=>absurd ho (I_lt_size hS o)) (fun hq=>Nat.lt_irrefl _ (hS.n0 _ hq)) (by simp) (fun id hid=>by have:=(hS.Blt id _ hid).2.2.1; omega) (fun t' n'' v'' hk hb=>by have:=hS.Kb hk hb; omega)
                  (fun o ho=>absurd ho (I_lt_size hS o)) hkey hl hl' (by simp [sizeA,hi]) (owns_new rfl hS.n0 (by rw [happ.1,hlen]) hge hle (by rw [size_zeroCells,hz])) rfl
                refine ⟨_,_,_,hrun,hS',hL,?_⟩
                have:=(happ.le hL).rep w.heap.size 0 (grownCap w (es.length + ys.length) cap e) (.tok k) (by rw [hlen]; exact hge) hle (fun j u hj=>by
                  have hj':j < (es.length + ys.length) * i.size:=by
                    have:=(List.getElem?_eq_some_iff.1 hj).1
                    rw [happ.1,hlen] at this; exact this
                  refine ⟨.inr ⟨rfl,by omega⟩,?_⟩
                  rw [Nat.zero_add]
                  show (w.drew.alloc _).cell? ⟨w.drew.heap.size,j,none⟩ = _
                  rw [World.cell?_alloc_new,Array.getElem?_append_left (by simpa using (List.getElem?_eq_some_iff.1 hj).1)]
                  simpa using hj) (by rw [hlen]; exact .inr ⟨rfl,rfl,rfl⟩)
                rw [hlen] at this
                exact this
              split at h
              · -- full
                rename_i hw'
                simp at h
                obtain ⟨rfl,rfl⟩:=h
                have hcf:cap = es.length:=by cases rep_weak hx with | sl _ _ _ _ _ u _ _ _ _ _ ho=>rw [hw'] at ho; exact ho
                exact grow S.live.length _ (by omega) (fun n v hk=>by
                  obtain ⟨m,e',hm,_⟩:=hS.Klt _ _ _ hk
                  rw [List.getElem?_eq_none (Nat.le_refl _)] at hm; cases hm) (by simp) (fun t' ht'=>by
                  by_cases hlt:t' < S.live.length
                  · rw [List.getElem?_append_left hlt]
                  · rw [List.getElem?_eq_none (by simp; omega),List.getElem?_eq_none (by omega)])
              · -- owned
                rename_i k hw'
                split at h
                · rename_i n e' hlive
                  split at h
                  · rename_i hh
                    obtain ⟨rfl,rfl⟩:=hh
                    simp at h
                    obtain ⟨rfl,rfl⟩:=h
                    have hklt:k < S.live.length:=(List.getElem?_eq_some_iff.1 hlive).1
                    have hkey:∀ n v,E.K k n v→n < es.length + ys.length:=fun n v hk=>by
                      obtain ⟨m,e',hm,hle⟩:=hS.Klt _ _ _ hk
                      rw [hlive] at hm; injection hm with hm; injection hm with hm _
                      omega
                    have hl:(S.live.set k (es.length + ys.length,e'))[k]? = some (es.length + ys.length,e'):=by simp [hklt]
                    have hl':∀ t',t' ≠ k→(S.live.set k (es.length + ys.length,e'))[t']? = S.live[t']?:=fun t' ht'=>by rw [List.getElem?_set_ne (Ne.symm ht')]
                    by_cases hgt:cap < es.length + ys.length
                    · exact grow k _ hgt hkey hl hl'
                    · obtain ⟨v0, xs, sz0, hsz0, hown, hu0, hK0, hg0⟩ := hS.live k es.length e' hlive
                      have hsz1:sz0 = i.size:=by simp [sizeA,hi] at hsz0; omega
                      subst hsz1
                      have hKx:E.K k es.length (.slice A es.length cap):=by cases rep_weak hx with | sl _ _ _ _ _ u _ _ _ _ _ ho=>rw [hw'] at ho; exact ho
                      have hv0:=hu0 _ hKx
                      subst hv0
                      rcases hown.1.2 with ⟨he0,_⟩ | ⟨g,cap',cur,hv,hbg,hh,hnc,hcm,hcs,htake⟩
                      · injection he0 with _ _ he0; omega
                      · injection hv with hvA _ hvc
                        subst hvc
                        subst hvA
                        obtain ⟨hgI,hgB,hgK⟩:=hg0 g rfl
                        have hglt:g < w.heap.size:=(Array.getElem?_eq_some_iff.1 hh).1
                        have hxs:xs.length = es.length * i.size:=hown.1.1
                        have hfit:es.length * i.size + news.length≤cur.size:=by rw [hvn.1,hcs,← Nat.add_mul]; exact Nat.mul_le_mul_right _ (by omega)
                        have hrun:=run_append_room_row (P:=P) (ty:=ty) hu hi g es.length cap cur hh vy ys.length news hsrc (by omega) hfit
                        have hcell:∀ o,o < es.length * i.size→(w.setRow g (cur.toList.take (es.length * i.size) ++ news ++ cur.toList.drop (es.length * i.size + news.length)).toArray).cell? ⟨g,o,none⟩ = w.cell? ⟨g,o,none⟩:=fun o ho=>by
                          rw [cell_setRow_same w g o cur _ e' _ hh,cell_of_row w g o cur e' _ hh]
                          simp only [List.append_assoc,List.getElem?_toArray]
                          rw [List.getElem?_append_left (by rw [List.length_take,Array.length_toList (xs:=cur)]; omega),List.getElem?_take_of_lt ho]
                          simp
                        obtain ⟨hS',hL⟩:=hS.tok (w':=w.setRow g (cur.toList.take (es.length * i.size) ++ news ++ cur.toList.drop (es.length * i.size + news.length)).toArray) k g (es.length + ys.length) i.size e'
                          (.slice (some ⟨g,0,none⟩) (es.length + ys.length) cap) (xs ++ news) _ rfl rfl rfl (by simp) (fun b _ hb=>setRow_other w g b _ hb)
                          (fun o ho=>hcell o (hgI o ho)) (hown.2 g rfl) (by simpa using hglt) hgB hgK
                          (fun o ho => by have h9 : o < es.length * i.size := hgI o ho
                                          rw [Nat.add_mul]; omega) hkey hl hl' hsz0
                          ⟨⟨by rw [List.length_append, hxs, hvn.1, Nat.add_mul], .inr ⟨g, cap, _, rfl, hbg, setRow_heap w g cur _ e' _ hh, by omega, hcm, by
                            simp only [List.size_toArray,List.length_append,List.length_take,List.length_drop,Array.length_toList]; omega,by
                            rw [htake,Nat.add_mul,← hxs,← hvn.1,← List.length_append]; exact List.take_left⟩⟩,hown.2⟩ rfl
                        refine ⟨_,_,_,hrun,hS',hL,?_⟩
                        have holds:olds = xs:=by
                          apply List.ext_getElem?
                          intro j
                          by_cases hj:j < es.length * i.size
                          · have h1 : j < olds.length := by rw [hvo.1]; exact hj
                            have h2:j < xs.length:=by rw [hxs]; exact hj
                            have h3:=(hat g 0 rfl j olds[j] (List.getElem?_eq_getElem h1)).2
                            have h4:=hown.1.cells (g:=g) rfl j xs[j] (List.getElem?_eq_getElem h2)
                            rw [add_plain] at h4
                            rw [h3] at h4
                            rw [List.getElem?_eq_getElem h1,List.getElem?_eq_getElem h2]
                            exact h4
                          · rw [List.getElem?_eq_none (by rw [hvo.1]; omega),List.getElem?_eq_none (by rw [hxs]; omega)]
                        have:=(happ.le hL).rep g 0 cap (.tok k) (by rw [hlen]; omega) hcm (fun j u hj=>by
                          have hj':j < (es.length + ys.length) * i.size:=by
                            have:=(List.getElem?_eq_some_iff.1 hj).1
                            rw [happ.1,hlen] at this; exact this
                          refine ⟨.inr ⟨rfl,by omega⟩,?_⟩
                          rw [Nat.zero_add,cell_setRow_same w g j cur _ e' _ hh,htake,← holds]
                          simp only [List.getElem?_toArray]
                          rw [List.getElem?_append_left (List.getElem?_eq_some_iff.1 hj).1]
                          exact hj) (by rw [hlen]; exact .inr ⟨rfl,rfl,rfl⟩)
                        rw [hlen] at this
                        exact this
                  · cases h
                · cases h
              · cases h
              · cases h
          · cases h
        · cases h
      · cases h
    · cases h
  · cases h
end
section
variable {P : Program} {E : Env} {w w' : World} {G : Glob} {N0 : Nat → Prop} {w0 : World} {I0 : Nat → Nat → Prop} {S : St}
theorem rep_int {k:IntKind} {n:Int} {v:Value} (h:Rep E w (.int k n) v):v = .int k n:=by cases h; rfl
theorem getElem!_lt {z:Array Value} {k:Nat} (h:k < z.size):z[k]! = z[k]:=by simp [h]
theorem makeSliceA_run (hS:SR P G N0 w0 I0 S E w) {t:TypeId} {l c r:AV} {S':St} {vl vc:Value} (h:makeSliceA P S t l c = some (r,S')) (hl:Rep E w l vl) (hc:Rep E w c vc) :
  ∃ v w' E',(Instr.makeSlice t vl vc).run P w = .ok v w'∧SR P G N0 w0 I0 S' E' w'∧Env.Le E E' w w'∧Rep E' w' r v:=by
 unfold makeSliceA at h
 split at h
 ·rename_i e n m hu
  cases hl; cases hc
  split at h
  ·rename_i i hi
   split at h
   ·rename_i z hz
    split at h
    ·rename_i hh
     obtain ⟨h0,hnm,hb,hzs,hs,hcl,hcells,hone⟩:=hh
     simp at h
     obtain ⟨rfl,rfl⟩:=h
     obtain ⟨n,rfl⟩:=Int.eq_ofNat_of_zero_le h0
     obtain ⟨m,rfl⟩:=Int.eq_ofNat_of_zero_le (show 0≤m by omega)
     simp only [Int.toNat_natCast] at *
     have hnm':n≤m:=by omega
     have hb':m * i.bytes + m≤70368744177664:=by
      have:(m:Int) * ((i.bytes:Int) + 1)≤(70368744177664:Nat):=hb
      rw [Int.mul_add] at this
      have e1:(m:Int) * (i.bytes:Int) = ((m * i.bytes:Nat):Int):=by simp
      omega
     have hb2:(i.bytes:Int) * (m:Int)≤281474976710656:=by
      have e1:(i.bytes:Int) * (m:Int) = ((m * i.bytes:Nat):Int):=by rw [Int.mul_comm]; simp
      omega
     have hrun:=run_make (P:=P) w t e i z hu hi hz .i64 .i64 n m h0 hnm hb2 (by omega)
     simp only [Int.toNat_natCast] at hrun
     rw [List.all_eq_true] at hone
     have hrow:∀ k,k < m * i.size→(madeCells z.cells (m * i.size))[k]? = some (z.cells[k % i.size]!):=fun k hk=>by
      simp [madeCells,hk,hzs]
     have hcr:=(absV_rep (E:=E) (w:=w) z).cr (closed1_plain hcl)
     have hmod:∀ k,k % i.size < z.cells.size:=fun k=>by rw [hzs]; exact Nat.mod_lt _ hs
     have hone':∀ k,(z.cells[k % i.size]!).oneCell' = true:=fun k=>by
      rw [getElem!_lt (hmod k)]
      exact hone _ (by simp)
     have hvals:Vals E w i.size (List.replicate n (absV z)) ((List.range (n * i.size)).map fun k=>z.cells[k % i.size]!):=by
      refine ⟨by simp,fun a ha=>by rw [(List.mem_replicate.1 ha).2]; exact hcells,fun a ha=>by rw [(List.mem_replicate.1 ha).2]; exact hcl,fun u hu=>?_,fun k a j c' hk hj=>?_⟩
      ·obtain ⟨k,_,rfl⟩:=List.mem_map.1 hu
       exact hone' k
      ·have hk':k < n:=by have:=(List.getElem?_eq_some_iff.1 hk).1; simpa using this
       rw [List.getElem?_replicate,if_pos hk'] at hk
       injection hk with hk; subst hk
       have hj':j < i.size:=by
        have:=(List.getElem?_eq_some_iff.1 hj).1
        rw [hcells] at this; exact this
       have hlt:k * i.size + j < n * i.size:=by
        have:(k + 1) * i.size≤n * i.size:=Nat.mul_le_mul_right _ hk'
        rw [Nat.add_mul] at this; omega
       have e2:(k * i.size + j) % i.size = j:=by rw [Nat.mul_comm,Nat.mul_add_mod,Nat.mod_eq_of_lt hj']
       have hjz:j < z.cells.size:=by omega
       refine ⟨z.cells[j],?_,(hcr.2 j c' _ hj (Array.getElem?_eq_getElem hjz)).1⟩
       rw [List.getElem?_map,List.getElem?_range hlt]
       simp only [Option.map_some,e2,getElem!_lt hjz]
     have hown:ownsQ (w.alloc (.cells (madeCells z.cells (m * i.size)) e)) N0 e i.size (.slice (some ⟨w.heap.size,0,none⟩) n m) n ((List.range (n * i.size)).map fun k=>z.cells[k % i.size]!):=by
      refine ⟨?_,fun g hg hq=>by simp only [Value.ownBlock,Option.some.injEq] at hg; subst hg; exact Nat.lt_irrefl _ (hS.n0 _ hq)⟩
      refine ⟨by simp,.inr ⟨w.heap.size,m,_,rfl,Nat.zero_le _,heap_alloc_new w _,hnm',by simp only [maxLen]; omega,size_madeCells _ _,?_⟩⟩
      apply List.ext_getElem?
      intro k
      by_cases hk:k < n * i.size
      ·have hk2:k < m * i.size:=Nat.lt_of_lt_of_le hk (Nat.mul_le_mul_right _ hnm')
       rw [List.getElem?_take_of_lt hk,Array.getElem?_toList,hrow k hk2,List.getElem?_map,List.getElem?_range hk]
       rfl
      ·rw [List.getElem?_eq_none (by rw [List.length_take]; omega),List.getElem?_eq_none (by simp; omega)]
     obtain ⟨hS',hL⟩:=hS.tok (w':=w.alloc (.cells (madeCells z.cells (m * i.size)) e)) S.live.length w.heap.size n i.size e (.slice (some ⟨w.heap.size,0,none⟩) n m) _ (S.live ++ [(n,e)]) rfl rfl rfl (by simp)
      (fun b hb _=>heap_alloc_old w _ b hb) (fun o ho=>absurd ho (I_lt_size hS o)) (fun hq=>Nat.lt_irrefl _ (hS.n0 _ hq)) (by simp) (fun id hid=>by have:=(hS.Blt id _ hid).2.2.1; omega) (fun t' n'' v'' hk hb=>by have:=hS.Kb hk hb; omega)
      (fun o ho=>absurd ho (I_lt_size hS o)) (fun n v hk=>by
       obtain ⟨m,e',hm,_⟩:=hS.Klt _ _ _ hk
       rw [List.getElem?_eq_none (Nat.le_refl _)] at hm; cases hm) (by simp) (fun t' ht'=>by
       by_cases hlt:t' < S.live.length
       ·rw [List.getElem?_append_left hlt]
       ·rw [List.getElem?_eq_none (by simp; omega),List.getElem?_eq_none (by omega)]) (by simp [sizeA,hi]) hown rfl
     refine ⟨_,_,_,hrun,hS',hL,?_⟩
     have:=(hvals.le hL).rep w.heap.size 0 m (.tok S.live.length) (by simpa using hnm') (by simp only [maxLen]; omega) (fun j u hj=>by
      have hj':j < n * i.size:=by have:=(List.getElem?_eq_some_iff.1 hj).1; simpa using this
      refine ⟨.inr ⟨rfl,by omega⟩,?_⟩
      rw [List.getElem?_map,List.getElem?_range hj'] at hj
      simp only [Option.map_some,Option.some.injEq] at hj
      subst hj
      rw [Nat.zero_add,World.cell?_alloc_new]
      exact hrow j (Nat.lt_of_lt_of_le hj' (Nat.mul_le_mul_right _ hnm'))) (by simp only [List.length_replicate]; exact .inr ⟨rfl,rfl,rfl⟩)
     rw [List.length_replicate] at this
     exact this
    ·cases h
   ·cases h
  ·cases h
 ·cases h
theorem mapM_bytes:∀ (es:List AV) (l:List UInt8),es.mapM byteOf = some l→l.length = es.length∧∀ (i:Nat) (e:AV),es[i]? = some e→∃ n,e = .int .u8 n∧l[i]? = some (UInt8.ofNat n.toNat)
 | [],l,h=>by simp at h; subst h; simp
 | e :: es,l,h=>by
  rw [List.mapM_cons] at h
  cases he:byteOf e with
  | none=>simp [he] at h
  | some b =>
   cases hr:es.mapM byteOf with
   | none=>simp [he,hr] at h
   | some l' =>
    simp [he,hr] at h
    subst h
    obtain ⟨h1,h2⟩:=mapM_bytes es l' hr
    refine ⟨by simp [h1],fun i e' hi=>?_⟩
    match i,hi with
    | 0,hi =>
     simp at hi; subst hi
     unfold byteOf at he
     split at he
     ·simp at he; subst he; exact ⟨_,rfl,by simp⟩
     ·cases he
    | i + 1,hi=>simpa using h2 i e' (by simpa using hi)
theorem foldl_push:∀ (l:List UInt8) (r:ByteArray),l.foldl (fun r b=>r.push b) r = ⟨r.data ++ l.toArray⟩
 | [],r=>by simp
 | b :: l,r=>by simp only [List.foldl_cons]; rw [foldl_push l]; simp [ByteArray.push]
theorem bytes_of_cells {src dst e:TypeId} {A:Option Addr} {sz cap:Nat} {es:List AV} {o:Own} {l:List UInt8} (hs:P.underlying src = some (.slice e)) (he:P.underlying e = some (.int .u8)) (hd:P.underlying dst = some .string)
  (hx:Rep E w (.sl sz es o) (.slice A es.length cap)) (hz:sz = 1∨es = []) (h:es.mapM byteOf = some l):(convert src dst (.slice A es.length cap)).run P w = .ok (.string ⟨l.toArray⟩) w:=by
 obtain ⟨hl,hb⟩:=mapM_bytes es l h
 rw [run_convert_bytes_string w src dst e A es.length cap hs he hd]
 cases hx with | sl _ _ _ _ _ u hcap hmax hA hsz hcl ho hr hone =>
 cases A with
 | none =>
  have he:es = []:=by
   rcases hA with hA | ⟨b,off,e,_⟩
   ·exact hA
   ·cases e
  subst he
  have:l = []:=List.eq_nil_of_length_eq_zero (by simpa using hl)
  subst this
  simp [Conv.bytesToString]
  rfl
 | some a =>
  let ns:List Int:=es.map fun e=>match e with | .int _ n=>n | _=>0
  have hns:(loadCells a es.length).run P w = .ok (ns.map (Value.int .u8)).toArray w:=by
   have:=run_loadCells_list (P:=P) w a (ns.map (Value.int .u8)) (fun j v hj=>by
    have hjl:j < es.length:=by have:=(List.getElem?_eq_some_iff.1 hj).1; simpa [ns] using this
    have hne:es ≠ []:=fun e=>by subst e; simp at hjl
    obtain rfl:=hz.resolve_right hne
    obtain ⟨b,off,e,hA'⟩:=hA.resolve_left hne
    injection e with e; subst e
    obtain ⟨n,hn,_⟩:=hb j _ (List.getElem?_eq_getElem hjl)
    have h1:=hA' j _ 0 _ (List.getElem?_eq_getElem hjl) (show es[j].cells[0]? = some es[j] by rw [hn]; rfl)
    have h2:=hr j _ 0 _ (List.getElem?_eq_getElem hjl) (show es[j].cells[0]? = some es[j] by rw [hn]; rfl)
    rw [hn] at h2
    have h3:u j 0 = .int .u8 n:=rep_int h2
    rw [add_plain]
    have h4:=h1.2
    simp only [Nat.mul_one,Nat.add_zero] at h4
    rw [h4,h3]
    rw [List.getElem?_map,List.getElem?_map,List.getElem?_eq_getElem hjl] at hj
    simp only [Option.map_some,Option.some.injEq,hn] at hj
    rw [hj])
   simpa [ns] using this
  rw [run_bytesToString w a es.length cap ns hns]
  have e1:ns.foldl (fun r n=>r.push (UInt8.ofNat n.toNat)) ByteArray.empty = l.foldl (fun r b=>r.push b) ByteArray.empty:=by
   have:l = ns.map fun n=>UInt8.ofNat n.toNat:=by
    apply List.ext_getElem?
    intro i
    rw [List.getElem?_map,List.getElem?_map]
    cases hi:es[i]? with
    | none =>
     have:¬ i < l.length:=by rw [hl]; intro h'; rw [List.getElem?_eq_getElem h'] at hi; cases hi
     rw [List.getElem?_eq_none (by omega)]; rfl
    | some e =>
     obtain ⟨n,hn,h3⟩:=hb i e hi
     subst hn
     rw [h3]; rfl
   rw [this]; exact (List.foldl_map ..).symm
  rw [e1,foldl_push]
  have he0:ByteArray.empty.data = #[]:=rfl
  rw [he0]
  simp
theorem convertA_run (hS:SR P G N0 w0 I0 S E w) {src dst:TypeId} {x r:AV} {vx:Value} (h:convertA P src dst x = some r) (hx:Rep E w x vx) :
  ∃ v w' E',(convert src dst vx).run P w = .ok v w'∧SR P G N0 w0 I0 S E' w'∧Env.Le E E' w w'∧Rep E' w' r v:=by
 unfold convertA at h
 split at h
 ·rename_i d k k' n hs hd
  cases hx
  simp at h; subst h
  exact ⟨_,w,E,by simp [convert,run_underlying hs,run_underlying hd,Conv.intToInt],hS,Env.Le.refl _ _,.int _ _⟩
 ·rename_i d k n hs hd
  cases hx
  simp at h; subst h
  exact ⟨_,w,E,by simp [convert,run_underlying hs,run_underlying hd,Conv.intToString],hS,Env.Le.refl _ _,.str _ _ rfl⟩
 ·rename_i s hs hd
  cases hx with | str _ bs hb =>
  simp at h; subst h
  exact ⟨_,w,E,by simp [convert,run_underlying hs,run_underlying hd],hS,Env.Le.refl _ _,.str _ _ hb⟩
 ·rename_i e s hs hd
  split at h
  ·rename_i he
   split at h
   case isFalse=>cases h
   rename_i hroom
   simp at h; subst h
   cases hx with | str _ bs hb =>
   subst hb
   have hmx:grownCap w bs.size 0 e≤maxLen:=grownCap_le_maxLen w bs.size 0 e (by rw [size_data]; simp only [maxLen]; omega)
   have hrun:=run_bytes_of_string (P:=P) w src dst e bs hs hd he
   obtain ⟨hS',hL⟩:=hS.ext (w':=w.drew.alloc (.cells (bytesRow bs (grownCap w bs.size 0 e)) e ((bytesRow bs (grownCap w bs.size 0 e)).size,(bytesRow bs (grownCap w bs.size 0 e)).size + 1)))
    ((below_drew w).trans ((below_alloc w.drew _).mono (Nat.le_refl _))) (I':=fun b o=>E.I b o∨b = w.heap.size) (fun b o h=>.inl h) (fun b o h=>h.imp id fun e=>by subst e; simp)
   have hl:(bs.data.toList.map fun c=>AV.int .u8 c.toNat).length = bs.size:=by rw [List.length_map,size_data]
   have hv:Vals ⟨fun b o=>E.I b o∨b = w.heap.size,E.B,E.K⟩ (w.drew.alloc (.cells (bytesRow bs (grownCap w bs.size 0 e)) e ((bytesRow bs (grownCap w bs.size 0 e)).size,(bytesRow bs (grownCap w bs.size 0 e)).size + 1))) 1 (bs.data.toList.map fun c=>AV.int .u8 c.toNat) (byteCells bs):=by
    refine ⟨by rw [byteCells_length,hl,Nat.mul_one],fun e he=>?_,fun e he=>?_,fun u hu=>?_,fun i e j c hi hj=>?_⟩
    ·obtain ⟨_,_,rfl⟩:=List.mem_map.1 he; rfl
    ·obtain ⟨_,_,rfl⟩:=List.mem_map.1 he; rfl
    ·obtain ⟨_,_,rfl⟩:=List.mem_map.1 hu; rfl
    ·rw [List.getElem?_map] at hi
     cases hk:bs.data.toList[i]? with
     | none=>simp [hk] at hi
     | some b =>
      simp only [hk,Option.map_some,Option.some.injEq] at hi
      subst hi
      match j,hj with
      | 0,hj =>
       simp only [AV.cells,List.getElem?_cons_zero,Option.some.injEq] at hj
       subst hj
       refine ⟨.int .u8 b.toNat,?_,.int _ _⟩
       simp [byteCells] at hk ⊢
       exact ⟨b,hk,rfl⟩
      | j + 1,hj=>simp [AV.cells] at hj
   have hge:=grownCap_ge w bs.size 0 e
   refine ⟨_,_,_,hrun,hS',hL,?_⟩
   have:=hv.rep w.heap.size 0 (grownCap w bs.size 0 e) .no (by rw [hl]; exact hge) hmx (fun j u hj=>by
    refine ⟨.inr rfl,?_⟩
    rw [Nat.zero_add,cell_of_row _ w.heap.size j _ e _ (heap_alloc_new w.drew _)]
    unfold bytesRow
    unfold byteCells at hj
    have hj':j < bs.data.size:=by have:=(List.getElem?_eq_some_iff.1 hj).1; simpa using this
    rw [Array.getElem?_append_left (by simpa using hj')]
    simpa using hj) trivial
   rw [hl] at this
   exact this
  ·cases h
 ·rename_i e sz es o hs hd
  split at h
  ·rename_i he
   split at h
   ·rename_i hz
    cases hm:es.mapM byteOf with
    | none=>simp [hm] at h
    | some l =>
     simp [hm] at h; subst h
     obtain ⟨A,cap,rfl,_⟩:=rep_slice_shape hx
     exact ⟨_,w,E,bytes_of_cells hs he hd hx hz hm,hS,Env.Le.refl _ _,.str _ _ (by simp)⟩
   ·cases h
  ·cases h
 ·cases h
end
end Go.Abs
