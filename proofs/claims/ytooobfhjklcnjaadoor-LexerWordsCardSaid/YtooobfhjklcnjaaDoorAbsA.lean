/-
  Abstract values: what a value of the model reads as, slices as lists; what it means that it is so in a world.
-/
import Derived.RowKit
import Derived.Below
import Derived.Laws.OwnMore
namespace Go.Abs
open Go.RowKit

/-- who may append to a slice -/
inductive Own where
  | full
  | no
  | nil
  | tok (t : Nat)

def Own.weak : Own → Own
  | .nil => .full
  | o => o

inductive AV where
  | lit (v : Value)
  | bool (b : Bool)
  | int (k : IntKind) (n : Int)
  | str (l : List UInt8)
  | agg (cs : List AV)
  | tup (vs : List AV)
  | sl (sz : Nat) (es : List AV) (o : Own)
  | elt (sz : Nat) (es : List AV) (i j : Nat)
  | ptr (b off : Nat)
  | fn (f : FuncId) (cap : List AV)
  | ifc
  | junk

def AV.cells : AV → List AV
  | .agg cs => cs
  | v => [v]

/-- a cell that may lie in a list -/
def AV.closed : AV → Bool
  | .ptr .. | .elt .. | .fn .. | .sl _ _ (.tok _) | .agg _ | .tup _ | .junk => false
  | _ => true
def AV.closed1 : AV → Bool
  | .agg cs => cs.all AV.closed
  | v => v.closed

/-- what is promised: cells that stay as they are (I), the blocks of variables (B), whose header of a slice it is (K) -/
structure Env where
  I : Nat → Nat → Prop
  B : Nat → Option Nat
  K : Nat → Nat → Value → Prop

def OwnOk (K : Nat → Nat → Value → Prop) : Own → Nat → Nat → Value → Prop
  | .full, n, cap, _ => cap = n
  | .no, _, _, _ => True
  | .nil, _, _, v => v = .slice none 0 0
  | .tok t, n, _, v => K t n v

def litOk : Value → Bool
  | .pointer none | .nilFunc | .nilIface | .map none | .chan none | .float _ _ => true
  | _ => false

inductive Rep (E : Env) (w : World) : AV → Value → Prop
  | lit (v : Value) (h : litOk v = true) : Rep E w (.lit v) v
  | bool (b : Bool) : Rep E w (.bool b) (.bool b)
  | int (k : IntKind) (n : Int) : Rep E w (.int k n) (.int k n)
  | str (l : List UInt8) (s : ByteArray) (h : s.data.toList = l) : Rep E w (.str l) (.string s)
  | agg (cs : List AV) (vs : Array Value) (hn : vs.size = cs.length) (h1 : ∀ (i : Nat) (v : Value), vs[i]? = some v → v.oneCell' = true) (h : ∀ (i : Nat) (c : AV) (v : Value), cs[i]? = some c → vs[i]? = some v → Rep E w c v) : Rep E w (.agg cs) (.agg vs)
  | tup (cs : List AV) (vs : Array Value) (hn : vs.size = cs.length) (h : ∀ (i : Nat) (c : AV) (v : Value), cs[i]? = some c → vs[i]? = some v → Rep E w c v) : Rep E w (.tup cs) (.tuple vs)
  | sl (sz : Nat) (es : List AV) (o : Own) (A : Option Addr) (cap : Nat) (u : Nat → Nat → Value) (hcap : es.length ≤ cap) (hmax : cap ≤ maxLen)
      (hA : es = [] ∨ ∃ b off, A = some ⟨b, off, none⟩ ∧ ∀ (i : Nat) (e : AV) (j : Nat) (c : AV), es[i]? = some e → e.cells[j]? = some c → E.I b (off + i * sz + j) ∧ w.cell? ⟨b, off + i * sz + j, none⟩ = some (u i j))
      (hsz : ∀ e ∈ es, e.cells.length = sz) (hcl : ∀ e ∈ es, e.closed1 = true)
      (ho : OwnOk E.K o es.length cap (.slice A es.length cap))
      (h : ∀ (i : Nat) (e : AV) (j : Nat) (c : AV), es[i]? = some e → e.cells[j]? = some c → Rep E w c (u i j)) (h1 : ∀ i j, (u i j).oneCell' = true) : Rep E w (.sl sz es o) (.slice A es.length cap)
  | elt (sz : Nat) (es : List AV) (i0 j0 : Nat) (b off : Nat) (u : Nat → Nat → Value) (hcl : ∀ e ∈ es, e.closed1 = true)
      (hA : ∀ (i : Nat) (e : AV) (j : Nat) (c : AV), es[i]? = some e → e.cells[j]? = some c → E.I b (off + i * sz + j) ∧ w.cell? ⟨b, off + i * sz + j, none⟩ = some (u i j))
      (h : ∀ (i : Nat) (e : AV) (j : Nat) (c : AV), es[i]? = some e → e.cells[j]? = some c → Rep E w c (u i j)) (h1 : ∀ i j, (u i j).oneCell' = true) : Rep E w (.elt sz es i0 j0) (.pointer (some ⟨b, off + i0 * sz + j0, none⟩))
  | ptr (b off blk : Nat) (h : E.B b = some blk) : Rep E w (.ptr b off) (.pointer (some ⟨blk, off, none⟩))
  | fn (f : FuncId) (cs : List AV) (vs : Array Value) (hn : vs.size = cs.length) (h : ∀ (i : Nat) (c : AV) (v : Value), cs[i]? = some c → vs[i]? = some v → Rep E w c v) : Rep E w (.fn f cs) (.func (.func f) #[] vs)
  | ifc (t : TypeId) (v : Value) : Rep E w .ifc (.iface t v)
  | junk (v : Value) : Rep E w .junk v

/-- what may come behind: nothing promised is taken back -/
structure Env.Le (E E' : Env) (w w' : World) : Prop where
  I : ∀ b o, E.I b o → E'.I b o ∧ w'.cell? ⟨b, o, none⟩ = w.cell? ⟨b, o, none⟩
  B : ∀ b x, E.B b = some x → E'.B b = some x
  K : ∀ t n v, E.K t n v → E'.K t n v

theorem Env.Le.refl (E : Env) (w : World) : Env.Le E E w w := ⟨fun _ _ h => ⟨h, rfl⟩, fun _ _ h => h, fun _ _ _ h => h⟩
theorem Env.Le.trans {E E' E'' : Env} {w w' w'' : World} (h : Env.Le E E' w w') (k : Env.Le E' E'' w' w'') : Env.Le E E'' w w'' :=
  ⟨fun b o hi => ⟨(k.I b o (h.I b o hi).1).1, (k.I b o (h.I b o hi).1).2.trans (h.I b o hi).2⟩, fun b x hb => k.B b x (h.B b x hb), fun t n v hk => k.K t n v (h.K t n v hk)⟩

theorem Rep.le {E E' : Env} {w w' : World} (hl : Env.Le E E' w w') {a : AV} {v : Value} (h : Rep E w a v) : Rep E' w' a v := by
  induction h with
  | lit v h => exact .lit v h
  | bool b => exact .bool b
  | int k n => exact .int k n
  | str l s h => exact .str l s h
  | agg cs vs hn h1 _ ih => exact .agg cs vs hn h1 ih
  | tup cs vs hn _ ih => exact .tup cs vs hn ih
  | sl sz es o A cap u hcap hmax hA hsz hcl ho _ h1 ih =>
    refine .sl sz es o A cap u hcap hmax ?_ hsz hcl ?_ ih h1
    · rcases hA with hA | ⟨b, off, hA, hc⟩
      · exact .inl hA
      · exact .inr ⟨b, off, hA, fun i e j c hi hj => ⟨(hl.I _ _ (hc i e j c hi hj).1).1, (hl.I _ _ (hc i e j c hi hj).1).2.trans (hc i e j c hi hj).2⟩⟩
    · cases o with
      | full => exact ho
      | no => trivial
      | nil => exact ho
      | tok t => exact hl.K _ _ _ ho
  | elt sz es i0 j0 b off u hcl hA _ h1 ih =>
    exact .elt sz es i0 j0 b off u hcl (fun i e j c hi hj => ⟨(hl.I _ _ (hA i e j c hi hj).1).1, (hl.I _ _ (hA i e j c hi hj).1).2.trans (hA i e j c hi hj).2⟩) ih h1
  | ptr b off blk h => exact .ptr b off blk (hl.B _ _ h)
  | fn f cs vs hn _ ih => exact .fn f cs vs hn ih
  | ifc t v => exact .ifc t v
  | junk v => exact .junk v

theorem closed_closed1 {a : AV} (h : a.closed = true) : a.closed1 = true := by
  cases a <;> simp_all [AV.closed, AV.closed1]
theorem closed1_cells {a c : AV} {j : Nat} (h : a.closed1 = true) (hj : a.cells[j]? = some c) : c.closed = true := by
  by_cases ha : ∃ cs, a = .agg cs
  · obtain ⟨cs, rfl⟩ := ha
    simp only [AV.closed1, List.all_eq_true] at h
    exact h c (List.mem_of_getElem? hj)
  · have e1 : a.cells = [a] := by cases a <;> simp_all [AV.cells]
    have e2 : a.closed = true := by cases a <;> simp_all [AV.closed1, AV.closed]
    rw [e1] at hj
    match j, hj with
    | 0, hj => simp at hj; subst hj; exact e2
    | j + 1, hj => simp at hj

/-- what leans on no variable and no owner holds whatever these are -/
theorem Rep.rebase {E : Env} {w : World} {a : AV} {v : Value} (h : Rep E w a v) (hc : a.closed1 = true) (B : Nat → Option Nat) (K : Nat → Nat → Value → Prop) : Rep ⟨E.I, B, K⟩ w a v := by
  induction h with
  | lit v h => exact .lit v h
  | bool b => exact .bool b
  | int k n => exact .int k n
  | str l s h => exact .str l s h
  | agg cs vs hn h1 _ ih =>
    simp only [AV.closed1, List.all_eq_true] at hc
    exact .agg cs vs hn h1 fun i c v hi hv => ih i c v hi hv (closed_closed1 (hc c (List.mem_of_getElem? hi)))
  | tup cs vs hn _ ih => simp [AV.closed1, AV.closed] at hc
  | sl sz es o A cap u hcap hmax hA hsz hcl ho _ h1 ih =>
    refine .sl sz es o A cap u hcap hmax hA hsz hcl ?_ (fun i e j c hi hj => ih i e j c hi hj (closed_closed1 (closed1_cells (hcl e (List.mem_of_getElem? hi)) hj))) h1
    cases o with
    | full => exact ho
    | no => trivial
    | nil => exact ho
    | tok t => simp [AV.closed1, AV.closed] at hc
  | elt sz es i0 j0 b off u hcl hA _ h1 ih => simp [AV.closed1, AV.closed] at hc
  | ptr b off blk h => simp [AV.closed1, AV.closed] at hc
  | fn f cs vs hn _ ih => simp [AV.closed1, AV.closed] at hc
  | ifc t v => exact .ifc t v
  | junk v => exact .junk v
end Go.Abs
