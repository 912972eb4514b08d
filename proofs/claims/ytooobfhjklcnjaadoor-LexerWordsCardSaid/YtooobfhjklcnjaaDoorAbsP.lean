/-
  Code and functions on abstract values; what they say holds of the model.
-/
import Derived.Test.YtooobfhjklcnjaaDoorAbsO
import Derived.LoopN
import Derived.Scope
namespace Go.Abs
open Go.RowKit

inductive AExit where
  | normal
  | exit (id : Nat)
  | goto (l : Nat)
  | ret

def AExit.to : AExit → Exit
  | .normal => .normal
  | .exit id => .exit id
  | .goto l => .goto l
  | .ret => .ret

abbrev ARes := Option (AExit × List AV × St)
abbrev AStep := List AV → St → ARes

def regionA (P : Program) (G : Glob) (R : Callee) (C : ICallee) (ops : List Oper) (draw : Bool) (T : List AV) (S : St) : Option (List AV × St) :=
  if draw then
    if drawOk ops then
      match logA P G R ops ops S.boxes.length T (roomFor ops S) with
      | some (lg, T', S') => if confOk ops lg then some (T', S') else none
      | none => none
    else none
  else listA P G R C ops ops S.boxes.length T (roomFor ops S)

/-- slots that are not read again are forgotten -/
def maskA : List Bool → List AV → List AV
  | true :: m, c :: T => c :: maskA m T
  | false :: m, _ :: T => .junk :: maskA m T
  | _, T => T

structure Loops where
  loop : AStep → AStep
  scope : AStep → (Nat → Option AStep) → AStep

def seqA (r : ARes) (k : AStep) : ARes :=
  match r with
  | some (.normal, T, S) => k T S
  | r => r
def blockA (id : Nat) (r : ARes) : ARes :=
  match r with
  | some (.exit id', T, S) => if id' = id then some (.normal, T, S) else some (.exit id', T, S)
  | r => r

mutual
def codeA (P : Program) (G : Glob) (R : Callee) (C : ICallee) (L : Loops) (m : List Bool) : Code → AStep
  | .skip => fun T S => some (.normal, T, S)
  | .region _ ops draw => fun T S =>
    match regionA P G R C ops.toList draw T S with
    | some (T', S') => some (.normal, maskA m T', S')
    | none => none
  | .seq a b => fun T S => seqA (codeA P G R C L m a T S) (codeA P G R C L m b)
  | .cond c x y => fun T S =>
    match evA G T c with
    | .bool true => codeA P G R C L m x T S
    | .bool false => codeA P G R C L m y T S
    | _ => none
  | .block id b => fun T S => blockA id (codeA P G R C L m b T S)
  | .loop b => L.loop (codeA P G R C L m b)
  | .exit id => fun T S => some (.exit id, T, S)
  | .scope b => L.scope (codeA P G R C L m b) (fromA P G R C L m b)
  | .label _ => fun T S => some (.normal, T, S)
  | .goto l => fun T S => some (.goto l, T, S)
  | .ret => fun T S => some (.ret, T, S)
  | .rangeFunc .. => fun _ _ => none
  | .refuse _ => fun _ _ => none
/-- what stands behind a label -/
def fromA (P : Program) (G : Glob) (R : Callee) (C : ICallee) (L : Loops) (m : List Bool) : Code → Nat → Option AStep
  | .seq a b => fun l =>
    match fromA P G R C L m a l with
    | some f => some fun T S => seqA (f T S) (codeA P G R C L m b)
    | none => fromA P G R C L m b l
  | .label l' => fun l => if l' == l then some fun T S => some (.normal, T, S) else none
  | _ => fun _ => none
end

def iterA : Nat → AStep → AStep
  | 0, _ => fun _ _ => none
  | n + 1, f => fun T S => seqA (f T S) (iterA n f)
def scopeA : Nat → AStep → (Nat → Option AStep) → AStep
  | 0, _, _ => fun _ _ => none
  | n + 1, f, k => fun T S =>
    match f T S with
    | some (.goto l, T', S') =>
      match k l with
      | some g => scopeA n g k T' S'
      | none => some (.goto l, T', S')
    | r => r
def fuelL (n : Nat) : Loops := ⟨iterA n, scopeA n⟩

def resultA (P : Program) (T : List AV) (S : St) : ResultVar → Option AV
  | .tmp t => some (T.getD t (.tup []))
  | .cell a t =>
    match T.getD a (.tup []) with
    | .ptr b o => loadA P S t (.ptr b o)
    | _ => none
def resultsA (P : Program) (T : List AV) (S : St) : List ResultVar → Option (List AV)
  | [] => some []
  | r :: l =>
    match resultA P T S r with
    | some v =>
      match resultsA P T S l with
      | some vs => some (v :: vs)
      | none => none
    | none => none
def packA : List AV → AV
  | [v] => v
  | vs => .tup vs

/-- the result, in numbers of its own -/
def normA (live : List (Nat × TypeId)) : AV → Option (AV × List (Nat × TypeId))
  | .sl sz es (.tok t) =>
    match live[t]? with
    | some (n, e) => if n = es.length then some (.sl sz es (.tok 0), [(n, e)]) else some (.sl sz es .no, [])
    | none => none
  | .tup (.sl sz es (.tok t) :: vs) =>
    if (vs.map AV.strip1).all AV.closed1 then
      match live[t]? with
      | some (n, e) => if n = es.length then some (.tup (.sl sz es (.tok 0) :: vs.map AV.strip1), [(n, e)]) else some (.tup (.sl sz es .no :: vs.map AV.strip1), [])
      | none => none
    else none
  | .tup vs => if (vs.map AV.strip1).all AV.closed1 then some (.tup (vs.map AV.strip1), []) else none
  | r => if r.strip1.closed1 then some (r.strip1, []) else none

/-- what may point to variables below n alone -/
def AV.p0 (n : Nat) : AV → Bool
  | .ptr b _ => decide (b < n)
  | .fn _ cap => cap.isEmpty
  | .agg _ | .tup _ => false
  | _ => true
def AV.p1 (n : Nat) : AV → Bool
  | .fn _ cap => cap.all (AV.p0 n)
  | .agg cs => cs.all (AV.p0 n)
  | v => v.p0 n
def AV.p2 (n : Nat) : AV → Bool
  | .tup vs => vs.all (AV.p1 n)
  | .agg cs => cs.all (AV.p1 n)
  | v => v.p1 n

def runA (P : Program) (G : Glob) (R : Callee) (C : ICallee) (L : Loops) (hint : FuncId → List Bool) (f : FuncId) (args : List AV) (S : St) : Option (AV × St) :=
  match P.funcs[f]? with
  | none => none
  | some fn =>
    match fn.body with
    | none => none
    | some c =>
      if fn.name == "runtime.NumGoroutine" then none else
      match codeA P G R C L (hint f) c (args ++ List.replicate (fn.ntmps - args.length) (.tup [])) S with
      | some (.normal, T, S') | some (.ret, T, S') =>
        match resultsA P T S' fn.results.toList with
        | some vs => some (packA vs, S')
        | none => none
      | _ => none

def funcA (P : Program) (G : Glob) (R : Callee) (C : ICallee) (L : Loops) (hint : FuncId → List Bool) (f : FuncId) (args : List AV) : Option (AV × List (Nat × TypeId)) :=
  match runA P G R C L hint f args ⟨[], []⟩ with
  | some (r, S) => normA S.live r
  | none => none

def boxesOk (n : Nat) : List (Option (List AV)) → Bool
  | [] => true
  | some cs :: l => cs.all (AV.p1 n) && boxesOk n l
  | none :: l => boxesOk n l

def funcI (P : Program) (G : Glob) (R : Callee) (C : ICallee) (L : Loops) (hint : FuncId → List Bool) (f : FuncId) (args : List AV) (S : St) : Option (AV × St) :=
  match runA P G R C L hint f args S with
  | some (r, S') =>
    if r.p2 S.boxes.length && boxesOk S.boxes.length (S'.boxes.take S.boxes.length) then some (r, { S' with boxes := S'.boxes.take S.boxes.length }) else none
  | none => none

/-- what is known of some functions, else the evaluator -/
def orA (R0 R : Callee) : Callee := fun f args =>
  match R0 f args with
  | some r => some r
  | none => R f args

def evs (P : Program) (G : Glob) (R0 : Callee) (hint : FuncId → List Bool) : Nat → Callee × ICallee
  | 0 => (R0, noC)
  | n + 1 => (orA R0 (funcA P G (evs P G R0 hint n).1 (evs P G R0 hint n).2 (fuelL n) hint), funcI P G (evs P G R0 hint n).1 (evs P G R0 hint n).2 (fuelL n) hint)

section
variable {P : Program} {G : Glob} {N0 : Nat} {w0 : World} {I0 : Nat → Nat → Prop}

theorem TR.mask {E : Env} {w : World} : ∀ (m : List Bool) (T : List AV) (tm : List Value), (T.length = tm.length ∧ ∀ (i : Nat) (c : AV) (v : Value), T[i]? = some c → tm[i]? = some v → Rep E w c v) →
    (maskA m T).length = tm.length ∧ ∀ (i : Nat) (c : AV) (v : Value), (maskA m T)[i]? = some c → tm[i]? = some v → Rep E w c v
  | [], T, tm, h => by simpa [maskA] using h
  | b :: m, [], tm, h => by cases b <;> simpa [maskA] using h
  | b :: m, c :: T, [], h => by have := h.1; simp at this
  | b :: m, c :: T, v :: tm, h => by
    obtain ⟨h1, h2⟩ := TR.mask m T tm ⟨by simpa using h.1, fun i c v hi hv => h.2 (i + 1) c v (by simpa using hi) (by simpa using hv)⟩
    cases b
    · refine ⟨by simp [maskA, h1], fun i c' v' hi hv => ?_⟩
      match i, hi, hv with
      | 0, hi, hv => simp [maskA] at hi; subst hi; exact .junk _
      | i + 1, hi, hv => exact h2 i c' v' (by simpa [maskA] using hi) (by simpa using hv)
    · refine ⟨by simp [maskA, h1], fun i c' v' hi hv => ?_⟩
      match i, hi, hv with
      | 0, hi, hv => exact h.2 0 c' v' (by simpa [maskA] using hi) (by simpa using hv)
      | i + 1, hi, hv => exact h2 i c' v' (by simpa [maskA] using hi) (by simpa using hv)
theorem TR.mask' {E : Env} {w : World} {T : List AV} {tm : Array Value} (h : TR E w T tm) (m : List Bool) : TR E w (maskA m T) tm := by
  obtain ⟨h1, h2⟩ := TR.mask m T tm.toList ⟨by simpa using h.1, fun i c v hi hv => h.2 i c v hi (by simpa using hv)⟩
  exact ⟨by simpa using h1, fun i c v hi hv => h2 i c v hi (by simpa using hv)⟩

/-- what is shown of a piece of code -/
def StepOk (P : Program) (G : Glob) (N0 : Nat) (w0 : World) (I0 : Nat → Nat → Prop) (f : AStep) (c : Code) : Prop :=
  ∀ (T : List AV) (S : St) (x : AExit) (T' : List AV) (S' : St) (E : Env) (a : Act) (w : World) (Q : Exit → Act → World → Prop), f T S = some (x, T', S') → SR P G N0 w0 I0 S E w → TR E w T a.tmps →
    (∀ E' w' a', SR P G N0 w0 I0 S' E' w' → Env.Le E E' w w' → TR E' w' T' a'.tmps → a'.defers = a.defers → Q x.to a' w') → c.wp P Q a w

theorem regionA_wp {R : Callee} {C : ICallee} (hm : P.follows .mixedOrders = true) (hR : CalleeOk P G R) (hC : ICalleeOk P G C) {id : Nat} {ops : Array Oper} {draw : Bool} {m : List Bool} :
    StepOk P G N0 w0 I0 (fun T S => match regionA P G R C ops.toList draw T S with | some (T', S') => some (.normal, maskA m T', S') | none => none) (.region id ops draw) := by
  intro T S x T' S' E a w Q h hS hT hQ
  dsimp only at h
  split at h
  · rename_i T1 S1 hr
    simp only [Option.some.injEq, Prod.mk.injEq] at h
    obtain ⟨rfl, rfl, rfl⟩ := h
    unfold regionA at hr
    split at hr
    · rename_i hd
      subst hd
      split at hr
      · rename_i hok
        split at hr
        · rename_i lg T2 S2 hlog
          split at hr
          · rename_i hc
            simp only [Option.some.injEq, Prod.mk.injEq] at hr
            obtain ⟨rfl, rfl⟩ := hr
            have := drawA_wp (id := id) hm hR hok hlog hc (hS.roomFor ops.toList) hT (Q := Q) fun E' w' a' h1 h2 h3 h4 => hQ E' w' a' h1 h2 (h3.mask' m) h4
            simpa using this
          · cases hr
        · cases hr
      · cases hr
    · rename_i hd
      have hd' : draw = false := by simpa using hd
      subst hd'
      refine wp_region_list ?_
      have := listA_wp (P := P) (G := G) (N0 := N0) (w0 := w0) (I0 := I0) hR hC (Q := Q) ops.toList _ T T1 _ S1 E a w (hS.roomFor ops.toList) hT hr fun E' w' a' h1 h2 h3 h4 => hQ E' w' a' h1 h2 (h3.mask' m) h4
      simpa using this
  · cases h

theorem seqA_wp {f g : AStep} {c d : Code} (hf : StepOk P G N0 w0 I0 f c) (hg : StepOk P G N0 w0 I0 g d) : StepOk P G N0 w0 I0 (fun T S => seqA (f T S) g) (.seq c d) := by
  intro T S x T' S' E a w Q h hS hT hQ
  dsimp only at h
  unfold seqA at h
  split at h
  · rename_i T1 S1 h1
    exact wp_seq (hf _ _ _ _ _ E a w _ h1 hS hT fun E' w' a' k1 k2 k3 k4 => hg _ _ _ _ _ E' a' w' Q h k1 k3 fun E2 w2 a2 l1 l2 l3 l4 => hQ E2 w2 a2 l1 (k2.trans l2) l3 (l4.trans k4))
  · rename_i hne
    refine wp_seq (hf _ _ _ _ _ E a w _ h hS hT fun E' w' a' k1 k2 k3 k4 => ?_)
    have := hQ E' w' a' k1 k2 k3 k4
    cases x with
    | normal => exact absurd h (hne _ _)
    | exit id => exact this
    | goto l => exact this
    | ret => exact this

theorem blockA_wp {f : AStep} {c : Code} {id : Nat} (hf : StepOk P G N0 w0 I0 f c) : StepOk P G N0 w0 I0 (fun T S => blockA id (f T S)) (.block id c) := by
  intro T S x T' S' E a w Q h hS hT hQ
  dsimp only at h
  unfold blockA at h
  split at h
  · rename_i id' T1 S1 h1
    refine wp_block (hf _ _ _ _ _ E a w _ h1 hS hT fun E' w' a' k1 k2 k3 k4 => ?_)
    show (if id' = id then Q .normal a' w' else Q (.exit id') a' w')
    split at h
    · rename_i hid
      simp only [Option.some.injEq, Prod.mk.injEq] at h
      obtain ⟨rfl, rfl, rfl⟩ := h
      rw [if_pos hid]; exact hQ E' w' a' k1 k2 k3 k4
    · rename_i hid
      simp only [Option.some.injEq, Prod.mk.injEq] at h
      obtain ⟨rfl, rfl, rfl⟩ := h
      rw [if_neg hid]; exact hQ E' w' a' k1 k2 k3 k4
  · rename_i hne
    refine wp_block (hf _ _ _ _ _ E a w _ h hS hT fun E' w' a' k1 k2 k3 k4 => ?_)
    have := hQ E' w' a' k1 k2 k3 k4
    cases x with
    | exit id' => exact absurd h (hne _ _ _)
    | normal => exact this
    | goto l => exact this
    | ret => exact this

theorem iterA_wp {f : AStep} {c : Code} (hf : StepOk P G N0 w0 I0 f c) (n : Nat) : StepOk P G N0 w0 I0 (iterA n f) (.loop c) := by
  intro T S x T' S' E a w Q h hS hT hQ
  refine wp_loop_rounds n ?_
  have key : ∀ (n : Nat) (T : List AV) (S : St) (E : Env) (a : Act) (w : World), iterA n f T S = some (x, T', S') → SR P G N0 w0 I0 S E w → TR E w T a.tmps →
      (∀ E' w' a', SR P G N0 w0 I0 S' E' w' → Env.Le E E' w w' → TR E' w' T' a'.tmps → a'.defers = a.defers → Q x.to a' w') → Code.rounds P c Q n a w := by
    intro n
    induction n with
    | zero => intro T S E a w h; simp [iterA] at h
    | succ n ih =>
      intro T S E a w h hS hT hQ
      rw [rounds_succ]
      simp only [iterA] at h
      unfold seqA at h
      split at h
      · rename_i T1 S1 h1
        exact hf _ _ _ _ _ E a w _ h1 hS hT fun E' w' a' k1 k2 k3 k4 => ih _ _ E' a' w' h k1 k3 fun E2 w2 a2 l1 l2 l3 l4 => hQ E2 w2 a2 l1 (k2.trans l2) l3 (l4.trans k4)
      · rename_i hne
        refine hf _ _ _ _ _ E a w _ h hS hT fun E' w' a' k1 k2 k3 k4 => ?_
        have := hQ E' w' a' k1 k2 k3 k4
        cases x with
        | normal => exact absurd h (hne _ _)
        | exit id => exact this
        | goto l => exact this
        | ret => exact this
  exact key n T S E a w h hS hT hQ

/-- rounds of a scope -/
def srounds (P : Program) (b : Code) (Q : Exit → Act → World → Prop) : Nat → Code → Act → World → Prop
  | 0, _, _, _ => False
  | n + 1, c, a, w => c.wp P (fun e a' w' => match e with
    | .goto l => match findLabel b l with
      | some rest => srounds P b Q n rest a' w'
      | none => Q (.goto l) a' w'
    | e => Q e a' w') a w

theorem wp_scope_rounds {b : Code} {Q : Exit → Act → World → Prop} {a : Act} {w : World} (n : Nat) (h : srounds P b Q n b a w) : (Code.scope b).wp P Q a w := by
  intro fr k cs
  have key : ∀ n c a w, srounds P b Q n c a w → ∃ e a' w', Q e a' w' ∧ Arrives P (lone (fr.at a (.code c :: .inScope b :: k)) cs w) fr k cs e a' w' := by
    intro n
    induction n with
    | zero => intro c a w h; exact h.elim
    | succ n ih =>
      intro c a w h
      obtain ⟨e, a₁, w₁, hq, harr⟩ := h fr (.inScope b :: k) cs
      cases e with
      | normal => exact ⟨.normal, a₁, w₁, hq, Steps.trans harr (.one step_inScope)⟩
      | exit id => exact ⟨.exit id, a₁, w₁, hq, fun k' hk => harr k' (by simp [exitTo, hk])⟩
      | goto l =>
        simp only at hq
        split at hq
        · rename_i rest hr
          obtain ⟨e₂, a₂, w₂, hq₂, harr₂⟩ := ih rest a₁ w₁ hq
          exact ⟨e₂, a₂, w₂, hq₂, .of_steps (harr _ (by simp [gotoIn, hr])) harr₂⟩
        · rename_i hr
          exact ⟨.goto l, a₁, w₁, hq, fun k' hk => harr k' (by simp [gotoIn, hr, hk])⟩
      | ret => exact ⟨_, a₁, w₁, hq, harr⟩
      | panic ch => exact ⟨_, a₁, w₁, hq, harr⟩
      | outgrown => exact ⟨_, a₁, w₁, hq, harr⟩
  obtain ⟨e, a', w', hq, harr⟩ := key n b a w h
  exact ⟨e, a', w', hq, .of_steps (.one step_scope) harr⟩

theorem scopeA_wp {b : Code} {k : Nat → Option AStep} (hk : ∀ l, (∀ g, k l = some g → ∃ rest, findLabel b l = some rest ∧ StepOk P G N0 w0 I0 g rest) ∧ (k l = none → findLabel b l = none)) {f : AStep} (hf : StepOk P G N0 w0 I0 f b) (n : Nat) :
    StepOk P G N0 w0 I0 (scopeA n f k) (.scope b) := by
  intro T S x T' S' E a w Q h hS hT hQ
  refine wp_scope_rounds n ?_
  have key : ∀ (n : Nat) (f : AStep) (c : Code) (T : List AV) (S : St) (E : Env) (a : Act) (w : World), StepOk P G N0 w0 I0 f c → scopeA n f k T S = some (x, T', S') → SR P G N0 w0 I0 S E w → TR E w T a.tmps →
      (∀ E' w' a', SR P G N0 w0 I0 S' E' w' → Env.Le E E' w w' → TR E' w' T' a'.tmps → a'.defers = a.defers → Q x.to a' w') → srounds P b Q n c a w := by
    intro n
    induction n with
    | zero => intro f c T S E a w _ h; simp [scopeA] at h
    | succ n ih =>
      intro f c T S E a w hf h hS hT hQ
      simp only [scopeA] at h
      split at h
      · rename_i l T1 S1 h1
        refine hf _ _ _ _ _ E a w _ h1 hS hT fun E' w' a' k1 k2 k3 k4 => ?_
        simp only [AExit.to]
        split at h
        · rename_i g hg
          obtain ⟨rest, hr, hgo⟩ := (hk l).1 g hg
          rw [hr]
          exact ih g rest _ _ E' a' w' hgo h k1 k3 fun E2 w2 a2 l1 l2 l3 l4 => hQ E2 w2 a2 l1 (k2.trans l2) l3 (l4.trans k4)
        · rename_i hg
          rw [(hk l).2 hg]
          simp only [Option.some.injEq, Prod.mk.injEq] at h
          obtain ⟨rfl, rfl, rfl⟩ := h
          exact hQ E' w' a' k1 k2 k3 k4
      · rename_i hne
        refine hf _ _ _ _ _ E a w _ h hS hT fun E' w' a' k1 k2 k3 k4 => ?_
        have := hQ E' w' a' k1 k2 k3 k4
        cases x with
        | goto l => exact absurd h (hne _ _ _)
        | normal => exact this
        | exit id => exact this
        | ret => exact this
  exact key n f b T S E a w hf h hS hT hQ

theorem skip_ok (x : AExit) (c : Code) (h : ∀ (Q : Exit → Act → World → Prop) (a : Act) (w : World), Q x.to a w → c.wp P Q a w) : StepOk P G N0 w0 I0 (fun T S => some (x, T, S)) c := by
  intro T S x' T' S' E a w Q hh hS hT hQ
  simp only [Option.some.injEq, Prod.mk.injEq] at hh
  obtain ⟨rfl, rfl, rfl⟩ := hh
  exact h Q a w (hQ E w a hS (Env.Le.refl _ _) hT rfl)

theorem codeA_wp {R : Callee} {C : ICallee} (hm : P.follows .mixedOrders = true) (hR : CalleeOk P G R) (hC : ICalleeOk P G C) (n : Nat) (m : List Bool) : ∀ (c : Code), StepOk P G N0 w0 I0 (codeA P G R C (fuelL n) m c) c ∧
    ∀ l, (∀ g, fromA P G R C (fuelL n) m c l = some g → ∃ rest, findLabel c l = some rest ∧ StepOk P G N0 w0 I0 g rest) ∧ (fromA P G R C (fuelL n) m c l = none → findLabel c l = none) := by
  intro c
  induction c with
  | skip => exact ⟨by rw [codeA]; exact skip_ok .normal _ fun Q a w h => wp_skip h, fun l => ⟨fun g h => by simp [fromA] at h, fun _ => rfl⟩⟩
  | region id ops draw => exact ⟨by rw [codeA]; exact regionA_wp hm hR hC, fun l => ⟨fun g h => by simp [fromA] at h, fun _ => rfl⟩⟩
  | seq a b iha ihb =>
    refine ⟨by rw [codeA]; exact seqA_wp iha.1 ihb.1, fun l => ⟨fun g h => ?_, fun h => ?_⟩⟩
    · simp only [fromA] at h
      split at h
      · rename_i f hf
        simp only [Option.some.injEq] at h
        subst h
        obtain ⟨rest, hr, hok⟩ := (iha.2 l).1 f hf
        exact ⟨.seq rest b, by simp [findLabel, hr], seqA_wp hok ihb.1⟩
      · rename_i hf
        obtain ⟨rest, hr, hok⟩ := (ihb.2 l).1 g h
        exact ⟨rest, by simp [findLabel, (iha.2 l).2 hf, hr], hok⟩
    · simp only [fromA] at h
      split at h
      · cases h
      · rename_i hf
        simp [findLabel, (iha.2 l).2 hf, (ihb.2 l).2 h]
  | cond c x y ihx ihy =>
    refine ⟨?_, fun l => ⟨fun g h => by simp [fromA] at h, fun _ => rfl⟩⟩
    rw [codeA]
    intro T S e T' S' E a w Q h hS hT hQ
    have hc := evA_rep hS.glob hT c
    simp only at h
    split at h
    · rename_i he
      rw [he] at hc
      exact wp_cond (rep_bool hc) (by simpa using ihx.1 _ _ _ _ _ E a w Q h hS hT hQ)
    · rename_i he
      rw [he] at hc
      exact wp_cond (rep_bool hc) (by simpa using ihy.1 _ _ _ _ _ E a w Q h hS hT hQ)
    · cases h
  | block id b ih => exact ⟨by rw [codeA]; exact blockA_wp ih.1, fun l => ⟨fun g h => by simp [fromA] at h, fun _ => rfl⟩⟩
  | loop b ih => exact ⟨by rw [codeA]; exact iterA_wp ih.1 n, fun l => ⟨fun g h => by simp [fromA] at h, fun _ => rfl⟩⟩
  | rangeFunc f ps as b _ _ => exact ⟨(by rw [codeA]; intro T S x T' S' E a w Q h; exact nomatch h), fun l => ⟨fun g h => by simp [fromA] at h, fun _ => rfl⟩⟩
  | exit id => exact ⟨by rw [codeA]; exact skip_ok (.exit id) _ fun Q a w h => wp_exit h, fun l => ⟨fun g h => by simp [fromA] at h, fun _ => rfl⟩⟩
  | scope b ih => exact ⟨by rw [codeA]; exact scopeA_wp ih.2 ih.1 n, fun l => ⟨fun g h => by simp [fromA] at h, fun _ => rfl⟩⟩
  | label l' =>
    refine ⟨by rw [codeA]; exact skip_ok .normal _ fun Q a w h => wp_label h, fun l => ⟨fun g h => ?_, fun h => ?_⟩⟩
    · simp only [fromA] at h
      split at h
      · rename_i he
        simp only [Option.some.injEq] at h
        subst h
        exact ⟨.skip, by simp [findLabel, he], skip_ok .normal _ fun Q a w h => wp_skip h⟩
      · cases h
    · simp only [fromA] at h
      split at h
      · cases h
      · rename_i he
        simp [findLabel, he]
  | goto l' => exact ⟨by rw [codeA]; exact skip_ok (.goto l') _ fun Q a w h => wp_goto h, fun l => ⟨fun g h => by simp [fromA] at h, fun _ => rfl⟩⟩
  | ret => exact ⟨by rw [codeA]; exact skip_ok .ret _ fun Q a w h => wp_ret h, fun l => ⟨fun g h => by simp [fromA] at h, fun _ => rfl⟩⟩
  | refuse s => exact ⟨(by rw [codeA]; intro T S x T' S' E a w Q h; exact nomatch h), fun l => ⟨fun g h => by simp [fromA] at h, fun _ => rfl⟩⟩
end
end Go.Abs
