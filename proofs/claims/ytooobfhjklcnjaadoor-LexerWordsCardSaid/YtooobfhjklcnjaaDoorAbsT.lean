/-
  Functions: from what is to be shown to what a call returns; tables of what is known of calls.
-/
import Derived.Test.YtooobfhjklcnjaaDoorAbsS
namespace Go.Abs
open Go.RowKit

def fnW (P : Program) (G : Glob) (X : Shapes) (R : Callee) (C : ICallee) (A : Anns) (m : List Bool) (f : FuncId) (args : List AV) (S : St) (K : AV → St → Prop) : Prop :=
  match P.funcs[f]? with
  | none => False
  | some fn =>
    match fn.body with
    | none => False
    | some c =>
      if fn.name == "runtime.NumGoroutine" then False else
      codeW P G X R C A m c (args ++ List.replicate (fn.ntmps - args.length) (.tup [])) S fun x T S' =>
        match x with
        | .normal | .ret => someK (resultsA P T S' fn.results.toList) fun vs => K (packA vs) S'
        | _ => False

def normW (live : List (Nat × TypeId)) (r0 : AV) (K : AV → List (Nat × TypeId) → Prop) : Prop :=
  match r0 with
  | .sl sz es (.tok t) => someK live[t]? fun p => p.1 = es.length ∧ K (.sl sz es (.tok 0)) [p]
  | .tup (.sl sz es (.tok t) :: vs) =>
    if (vs.map AV.strip1).all AV.closed1 then someK live[t]? fun p => p.1 = es.length ∧ K (.tup (.sl sz es (.tok 0) :: vs.map AV.strip1)) [p] else False
  | r0 => someK (normA live r0) fun x => K x.1 x.2
theorem normW_imp {live : List (Nat × TypeId)} {r0 : AV} {K : AV → List (Nat × TypeId) → Prop} (h : normW live r0 K) : ∃ r lv, normA live r0 = some (r, lv) ∧ K r lv := by
  unfold normW at h
  split at h
  · obtain ⟨p, h1, h2, h3⟩ := someK_imp h
    obtain ⟨n, e⟩ := p
    exact ⟨_, _, by simp only [normA, h1]; rw [if_pos h2], h3⟩
  · split at h
    · rename_i hc
      obtain ⟨p, h1, h2, h3⟩ := someK_imp h
      obtain ⟨n, e⟩ := p
      exact ⟨_, _, by simp only [normA, h1]; rw [if_pos hc, if_pos h2], h3⟩
    · exact h.elim
  · obtain ⟨x, h1, h2⟩ := someK_imp h
    exact ⟨x.1, x.2, h1, h2⟩

section
variable {P : Program} {G : Glob}

theorem fnW_ok {X : Shapes} {R : Callee} {C : ICallee} (hm : P.follows .mixedOrders = true) (hR : CalleeOk P G R) (hC : ICalleeOk P G C) {A : Anns} {m : List Bool} {f : FuncId} {args : List AV} {S : St} {K : AV → St → Prop} (h : fnW P G X R C A m f args S K) :
    goodFn P f ∧ ∀ (N0 : Nat) (w0 : World) (I0 : Nat → Nat → Prop) (E : Env) (w : World) (vs : Array Value), SR P G N0 w0 I0 S E w → vs.size = args.length → (∀ (i : Nat) (c : AV) (v : Value), args[i]? = some c → vs[i]? = some v → Rep E w c v) →
      Calls P f vs w fun e w' => ∃ v E' r S', e = .returned v ∧ K r S' ∧ SR P G N0 w0 I0 S' E' w' ∧ Env.Le E E' w w' ∧ Rep E' w' r v := by
  unfold fnW at h
  split at h
  · exact h.elim
  · rename_i fn hf
    split at h
    · exact h.elim
    · rename_i c hb
      split at h
      · exact h.elim
      · rename_i hname
        refine ⟨⟨fn, hf, by rw [hb]; rfl, by simpa using hname⟩, fun N0 w0 I0 E w vs hS hn hv => ?_⟩
        have hT0 : TR E w (args ++ List.replicate (fn.ntmps - args.length) (.tup [])) (vs ++ Array.replicate (fn.ntmps - vs.size) undef) := by
          refine ⟨by simp [hn], fun i c v hi hv' => ?_⟩
          by_cases hlt : i < args.length
          · rw [List.getElem?_append_left hlt] at hi
            rw [Array.getElem?_append_left (by omega)] at hv'
            exact hv i c v hi hv'
          · rw [List.getElem?_append_right (by omega), List.getElem?_replicate] at hi
            rw [Array.getElem?_append_right (by omega), Array.getElem?_replicate] at hv'
            split at hi
            · split at hv'
              · simp at hi hv'; subst hi; subst hv'
                exact rep_undef
              · cases hv'
            · cases hi
        refine calls_of_wp hf hb ((codeW_ok (N0 := N0) (w0 := w0) (I0 := I0) hm hR hC A m c).1 _ _ _ E _ w _ h hS hT0 fun x T S1 E' w' a' hk h1 h2 h3 h4 => ?_)
        cases x with
        | exit id => exact hk.elim
        | goto l => exact hk.elim
        | normal =>
          obtain ⟨us, hus, hK⟩ := someK_imp hk
          obtain ⟨v, hv, hrep⟩ := results_run h1 h3 hus
          exact ⟨h4, v, hv, v, E', _, _, rfl, hK, h1, h2, hrep⟩
        | ret =>
          obtain ⟨us, hus, hK⟩ := someK_imp hk
          obtain ⟨v, hv, hrep⟩ := results_run h1 h3 hus
          exact ⟨h4, v, hv, v, E', _, _, rfl, hK, h1, h2, hrep⟩

/-- what is known of a function's calls -/
abbrev Spec := List AV → Option (AV × List (Nat × TypeId))
abbrev ISpec := List AV → St → Option (AV × St)
def tbl : List (FuncId × Spec) → Callee
  | [], _, _ => none
  | (g, s) :: l, f, args => if f = g then s args else tbl l f args
def itbl : List (FuncId × ISpec) → ICallee
  | [], _, _, _ => none
  | (g, s) :: l, f, args, S => if f = g then s args S else itbl l f args S

def SpecOk (P : Program) (G : Glob) (f : FuncId) (s : Spec) : Prop := CalleeOk P G fun g args => if g = f then s args else none
def ISpecOk (P : Program) (G : Glob) (f : FuncId) (s : ISpec) : Prop := ICalleeOk P G fun g args S => if g = f then s args S else none

theorem tbl_nil : CalleeOk P G (tbl []) := fun _ _ _ _ h => by simp [tbl] at h
theorem tbl_cons {f : FuncId} {s : Spec} {l : List (FuncId × Spec)} (h : SpecOk P G f s) (hl : CalleeOk P G (tbl l)) : CalleeOk P G (tbl ((f, s) :: l)) := by
  intro g args r lv hr
  simp only [tbl] at hr
  split at hr
  · rename_i e
    exact h g args r lv (by simp only [e, if_true]; exact hr)
  · exact hl g args r lv hr
theorem itbl_nil : ICalleeOk P G (itbl []) := fun _ _ _ _ _ h => by simp [itbl] at h
theorem itbl_cons {f : FuncId} {s : ISpec} {l : List (FuncId × ISpec)} (h : ISpecOk P G f s) (hl : ICalleeOk P G (itbl l)) : ICalleeOk P G (itbl ((f, s) :: l)) := by
  intro g args S r S' hr
  simp only [itbl] at hr
  split at hr
  · rename_i e
    exact h g args S r S' (by simp only [e, if_true]; exact hr)
  · exact hl g args S r S' hr

/-- what comes back -/
structure RetIs (r : AV) (lv : List (Nat × TypeId)) (s : AV × List (Nat × TypeId)) : Prop where
  eq : (r, lv) = s
structure RetOpen (ok : Bool) (r : AV) (S : St) (s : AV × St) : Prop where
  ok : ok = true
  eq : (r, S) = s

/-- what is to be shown of a function -/
def pureW (P : Program) (G : Glob) (X : Shapes) (R : Callee) (C : ICallee) (A : Anns) (m : List Bool) (f : FuncId) (args : List AV) (r : AV × List (Nat × TypeId)) : Prop :=
  fnW P G X R C A m f args ⟨[], []⟩ fun r0 S => normW S.live r0 fun r' lv => RetIs r' lv r

structure PureOk (P : Program) (G : Glob) (X : Shapes) (R : Callee) (C : ICallee) (A : Anns) (m : List Bool) (f : FuncId) (args : List AV) (r : AV × List (Nat × TypeId)) : Prop where
  out : pureW P G X R C A m f args r

theorem spec_of {X : Shapes} {R : Callee} {C : ICallee} (hm : P.follows .mixedOrders = true) (hR : CalleeOk P G R) (hC : ICalleeOk P G C) {m : List Bool} {f : FuncId} {s : Spec}
    (h : ∀ args r, s args = some r → ∃ A, PureOk P G X R C A m f args r) : SpecOk P G f s := by
  intro g args r lv hr
  simp only at hr
  split at hr
  · rename_i e
    subst e
    obtain ⟨A, hA⟩ := h args _ hr
    obtain ⟨hg, hcall⟩ := fnW_ok hm hR hC hA.out
    refine fun E w vs hI hG hn hv hcl => .inl ⟨hg, ?_⟩
    have hS0 : SR P G w.heap.size w E.I ⟨[], []⟩ ⟨E.I, fun _ => none, fun _ _ _ => False⟩ w :=
      ⟨Below.refl _ _, Nat.le_refl _, hI, fun b o h _ => h, fun id b h => (nomatch h), fun id id' b h => (nomatch h), fun id cs h => (nomatch h), fun g e hg => ⟨(hG g e hg).1, rep_elt_rebase (hG g e hg).2 _ _⟩, fun id h => (nomatch h), fun t n v h => False.elim h, fun t n v h => False.elim h, fun t n e h => (nomatch h)⟩
    refine (hcall _ _ _ _ w vs hS0 hn fun i c v hi hv' => (hv i c v hi hv').rebase (hcl c (List.mem_of_getElem? hi)) _ _).mono fun e w' ⟨v, E', r0, S', he, hk, h1, h2, h3⟩ => ?_
    obtain ⟨r', lv', hnorm, ⟨he'⟩⟩ := normW_imp hk
    injection he' with h5 h6
    subst h5; subst h6
    exact ⟨v, he, normA_res (E0 := E) h1 (fun b o hi => (h2.I b o hi).1) hnorm h3⟩
  · cases hr

/-- the same of a function that looks at its caller's variables -/
def openW (P : Program) (G : Glob) (X : Shapes) (R : Callee) (C : ICallee) (A : Anns) (m : List Bool) (f : FuncId) (args : List AV) (S : St) (r : AV × St) : Prop :=
  fnW P G X R C A m f args S fun r0 S' => RetOpen (r0.p2 S.boxes.length && boxesOk S.boxes.length (S'.boxes.take S.boxes.length)) r0 { S' with boxes := S'.boxes.take S.boxes.length } r
theorem ispec_of {X : Shapes} {R : Callee} {C : ICallee} (hm : P.follows .mixedOrders = true) (hR : CalleeOk P G R) (hC : ICalleeOk P G C) {m : List Bool} {f : FuncId} {s : ISpec}
    (h : ∀ args S r, s args S = some r → ∃ A, openW P G X R C A m f args S r) : ISpecOk P G f s := by
  intro g args S r S' hr
  simp only at hr
  split at hr
  · rename_i e
    subst e
    obtain ⟨A, hA⟩ := h args S _ hr
    obtain ⟨hg, hcall⟩ := fnW_ok hm hR hC hA
    refine ⟨hg, fun N0 w0 I0 E w vs hS hn hv => (hcall N0 w0 I0 E w vs hS hn hv).mono fun e w' ⟨v, E', r0, S1, he, ⟨hok, hk⟩, h1, h2, h3⟩ => ?_⟩
    injection hk with h5 h6
    subst h5; subst h6
    simp only [Bool.and_eq_true] at hok
    refine ⟨v, ⟨E'.I, cutB S.boxes.length E'.B, E'.K⟩, he, h1.cut hok.2, ⟨h2.I, fun b x hb => ?_, h2.K⟩, h3.cut (pb2 hok.1)⟩
    have := (hS.Blt b x hb).1
    simp [cutB, this, h2.B b x hb]
  · cases hr
end
end Go.Abs
