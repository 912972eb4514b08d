/-
  Regions.
-/
import Derived.Test.YtooobfhjklcnjaaDoorAbsL
import Derived.Orders
import Derived.Tactics
namespace Go.Abs
open Go.RowKit

def isAlloc : Op → Bool
  | .alloc _ | .box .. => true
  | _ => false

def putA (T : List AV) (d : Option Tmp) (r : AV) : List AV :=
  match d with
  | some d => T.set d r
  | none => T

def guardA (ops : List Oper) (T : List AV) (o : Oper) : Option Bool :=
  match o.guard with
  | none => some true
  | some (j, want) =>
    match (ops[j]?).bind (·.dst) with
    | none => some false
    | some t =>
      match T[t]? with
      | some (.bool b) => some (b == want)
      | some (.tup []) => some false
      | some _ => none
      | none => some false

def stepA (P : Program) (G : Glob) (R : Callee) (C : ICallee) (ops : List Oper) (bid : Nat) (o : Oper) (T : List AV) (S : St) : Option (AV × St) :=
  match guardA ops T o with
  | some true => opA P R C (evA G T) bid S o.op
  | some false => some (.tup [], S)
  | none => none

def nextBid (o : Oper) (bid : Nat) : Nat := if isAlloc o.op then bid + 1 else bid

def listA (P : Program) (G : Glob) (R : Callee) (C : ICallee) (ops : List Oper) : List Oper → Nat → List AV → St → Option (List AV × St)
  | [], _, T, S => some (T, S)
  | o :: l, bid, T, S =>
    match stepA P G R C ops bid o T S with
    | some (r, S') => listA P G R C ops l (nextBid o bid) (putA T o.dst r) S'
    | none => none

def roomFor (ops : List Oper) (S : St) : St :=
  match ops.countP fun o => isAlloc o.op with
  | 0 => S
  | k => { S with boxes := S.boxes ++ List.replicate k none }

section
variable {P : Program} {E : Env} {w w' : World} {G : Glob} {N0 : Nat} {w0 : World} {I0 : Nat → Nat → Prop} {S : St}

theorem SR.roomFor (h : SR P G N0 w0 I0 S E w) (ops : List Oper) : SR P G N0 w0 I0 (roomFor ops S) E w := by
  unfold Abs.roomFor
  split
  · exact h
  · exact h.room _

theorem rep_tup_nil {v : Value} (h : Rep E w (.tup []) v) : v = undef := by
  obtain ⟨vs, rfl, hn, _⟩ := rep_tup h
  obtain rfl : vs = #[] := by simpa using hn
  rfl

theorem guardA_run {ops : List Oper} {T : List AV} {tm : Array Value} {o : Oper} {g : Bool} (h : guardA ops T o = some g)
    (hT : T.length = tm.size) (hr : ∀ j want t c v, o.guard = some (j, want) → (ops[j]?).bind (·.dst) = some t → T[t]? = some c → tm[t]? = some v → Rep E w c v) :
    Region.wanted o (yielded ops.toArray tm) = g := by
  unfold guardA at h
  unfold Region.wanted
  split at h
  · rename_i hg
    simp at h; subst h
    simp [hg]
  · rename_i j want hg
    simp only [hg]
    unfold yielded
    simp only [List.getElem?_toArray]
    split at h
    · rename_i hd
      simp at h; subst h
      simp [hd]
    · rename_i t hd
      simp only [hd, Option.bind_some]
      cases hv : tm[t]? with
      | none =>
        have hle : T.length ≤ t := by rw [hT]; exact Array.getElem?_eq_none_iff.1 hv
        rw [List.getElem?_eq_none hle] at h
        simp at h; subst h; rfl
      | some v =>
        have hlt : t < T.length := by rw [hT]; exact (Array.getElem?_eq_some_iff.1 hv).1
        have hrep := hr j want t T[t] v hg hd (List.getElem?_eq_getElem hlt) hv
        rw [List.getElem?_eq_getElem hlt] at h
        split at h
        · rename_i b hb
          injection hb with hb
          rw [hb] at hrep
          simp at h; subst h
          rw [rep_bool hrep]
          cases b <;> cases want <;> rfl
        · rename_i hb
          injection hb with hb
          rw [hb] at hrep
          simp at h; subst h
          rw [rep_tup_nil hrep]
          rfl
        · cases h
        · rename_i hb; cases hb

theorem TR.putA {T : List AV} {a : Act} (h : TR E w T a.tmps) (d : Option Tmp) {r : AV} {v : Value} (hr : Rep E w r v) : TR E w (putA T d r) (a.put d v).tmps := by
  have := h.put d hr
  unfold Abs.putA
  cases d <;> exact this
theorem put_defers (a : Act) (d : Option Tmp) (v : Value) : (a.put d v).defers = a.defers := by cases d <;> rfl

theorem listA_wp {R : Callee} {C : ICallee} (hR : CalleeOk P G R) (hC : ICalleeOk P G C) {ops : List Oper} {Q : Exit → Act → World → Prop} : ∀ (l : List Oper) (bid : Nat) (T T' : List AV) (S S' : St) (E : Env) (a : Act) (w : World),
    SR P G N0 w0 I0 S E w → TR E w T a.tmps → listA P G R C ops l bid T S = some (T', S') →
    (∀ E' w' a', SR P G N0 w0 I0 S' E' w' → Env.Le E E' w w' → TR E' w' T' a'.tmps → a'.defers = a.defers → Q .normal a' w') → wpList P ops.toArray Q l a w
  | [], bid, T, T', S, S', E, a, w, hS, hT, h, hQ => by
    simp only [listA, Option.some.injEq, Prod.mk.injEq] at h
    obtain ⟨rfl, rfl⟩ := h
    exact hQ E w a hS (Env.Le.refl _ _) hT rfl
  | o :: l, bid, T, T', S, S', E, a, w, hS, hT, h, hQ => by
    simp only [listA] at h
    split at h
    · rename_i r S1 hs
      unfold stepA at hs
      split at hs
      · rename_i hg
        have hw := guardA_run hg hT.1 (fun j want t c v _ _ hc hv => hT.2 t c v hc hv)
        simp only [wpList, hw, if_true]
        refine .inl (op_wp hR hC hS hT hs fun E' w' v h1 h2 h3 => ?_)
        exact listA_wp hR hC l _ _ T' S1 S' E' _ w' h1 ((hT.le h2).putA o.dst h3) h fun E2 w2 a2 k1 k2 k3 k4 => hQ E2 w2 a2 k1 (h2.trans k2) k3 (k4.trans (put_defers _ _ _))
      · rename_i hg
        have hw := guardA_run hg hT.1 (fun j want t c v _ _ hc hv => hT.2 t c v hc hv)
        simp only [wpList, hw, Bool.false_eq_true, if_false]
        simp at hs
        obtain ⟨rfl, rfl⟩ := hs
        exact listA_wp hR hC l _ _ T' _ S' E _ w hS (hT.putA o.dst rep_undef) h fun E2 w2 a2 k1 k2 k3 k4 => hQ E2 w2 a2 k1 k2 k3 (k4.trans (put_defers _ _ _))
      · cases hs
    · cases h
end
end Go.Abs
