/-
  What is to be shown of code, its loops annotated.
-/
import Derived.Test.YtooobfhjklcnjaaDoorAbsR
import Derived.Deep.LoopGhost
namespace Go.Abs
open Go.RowKit

def stepW (P : Program) (G : Glob) (X : Shapes) (R : Callee) (C : ICallee) (ops : List Oper) (bid : Nat) (o : Oper) (T : List AV) (S : St) (K : AV → St → Prop) : Prop :=
  match guardA ops T o with
  | some true => opW P X R C (evA G T) bid S o.op K
  | some false => K (.tup []) S
  | none => False
theorem stepW_imp {P : Program} {G : Glob} {X : Shapes} {R : Callee} {C : ICallee} {ops : List Oper} {bid : Nat} {o : Oper} {T : List AV} {S : St} {K : AV → St → Prop} (h : stepW P G X R C ops bid o T S K) :
    ∃ r S', stepA P G R C ops bid o T S = some (r, S') ∧ K r S' := by
  unfold stepW at h
  unfold stepA
  split at h
  · rename_i hg
    rw [hg]
    exact opW_imp h
  · rename_i hg
    rw [hg]
    exact ⟨_, _, rfl, h⟩
  · exact h.elim

def listW (P : Program) (G : Glob) (X : Shapes) (R : Callee) (C : ICallee) (ops : List Oper) : List Oper → Nat → List AV → St → (List AV → St → Prop) → Prop
  | [], _, T, S, K => K T S
  | o :: l, bid, T, S, K => stepW P G X R C ops bid o T S fun r S' => listW P G X R C ops l (nextBid o bid) (putA T o.dst r) S' K
theorem listW_imp {P : Program} {G : Glob} {X : Shapes} {R : Callee} {C : ICallee} {ops : List Oper} : ∀ {l : List Oper} {bid : Nat} {T : List AV} {S : St} {K : List AV → St → Prop}, listW P G X R C ops l bid T S K →
    ∃ T' S', listA P G R C ops l bid T S = some (T', S') ∧ K T' S'
  | [], _, _, _, _, h => ⟨_, _, rfl, h⟩
  | o :: l, bid, T, S, K, h => by
    obtain ⟨r, S1, h1, h⟩ := stepW_imp h
    obtain ⟨T', S', h2, h⟩ := listW_imp h
    exact ⟨T', S', by simp only [listA, h1, h2], h⟩

def logW (P : Program) (G : Glob) (X : Shapes) (R : Callee) (ops : List Oper) : List Oper → Nat → List AV → St → (List (List Loc × List Loc) → List AV → St → Prop) → Prop
  | [], _, T, S, K => K [] T S
  | o :: l, bid, T, S, K => stepW P G X R noC ops bid o T S fun r S' => logW P G X R ops l (nextBid o bid) (putA T o.dst r) S' fun lg => K (entA G ops T bid S S' o :: lg)
theorem logW_imp {P : Program} {G : Glob} {X : Shapes} {R : Callee} {ops : List Oper} : ∀ {l : List Oper} {bid : Nat} {T : List AV} {S : St} {K : List (List Loc × List Loc) → List AV → St → Prop}, logW P G X R ops l bid T S K →
    ∃ lg T' S', logA P G R ops l bid T S = some (lg, T', S') ∧ K lg T' S'
  | [], _, _, _, _, h => ⟨_, _, _, rfl, h⟩
  | o :: l, bid, T, S, K, h => by
    obtain ⟨r, S1, h1, h⟩ := stepW_imp h
    obtain ⟨lg, T', S', h2, h⟩ := logW_imp h
    exact ⟨_, T', S', by simp only [logA, h1, h2], h⟩

def regionW (P : Program) (G : Glob) (X : Shapes) (R : Callee) (C : ICallee) (ops : List Oper) (draw : Bool) (T : List AV) (S : St) (K : List AV → St → Prop) : Prop :=
  if draw then
    if drawOk ops then logW P G X R ops ops S.boxes.length T (roomFor ops S) fun lg T' S' => if confOk ops lg then K T' S' else False
    else False
  else listW P G X R C ops ops S.boxes.length T (roomFor ops S) K
theorem regionW_imp {P : Program} {G : Glob} {X : Shapes} {R : Callee} {C : ICallee} {ops : List Oper} {draw : Bool} {T : List AV} {S : St} {K : List AV → St → Prop} (h : regionW P G X R C ops draw T S K) :
    ∃ T' S', regionA P G R C ops draw T S = some (T', S') ∧ K T' S' := by
  unfold regionW at h
  unfold regionA
  split at h
  · rename_i hd
    rw [if_pos hd]
    split at h
    · rename_i ho
      rw [if_pos ho]
      obtain ⟨lg, T', S', h1, h⟩ := logW_imp h
      split at h
      · rename_i hc
        simp only [h1]
        rw [if_pos hc]
        exact ⟨_, _, rfl, h⟩
      · exact h.elim
    · exact h.elim
  · rename_i hd
    rw [if_neg hd]
    exact listW_imp h

abbrev WK := AExit → List AV → St → Prop
abbrev WStep := List AV → St → WK → Prop

def seqK (f : WStep) (K : WK) : WK := fun x T S =>
  match x with
  | .normal => f T S K
  | x => K x T S
def blockK (id : Nat) (K : WK) : WK := fun x T S =>
  match x with
  | .exit id' => if id' = id then K .normal T S else K (.exit id') T S
  | x => K x T S

/-- what holds where a loop begins, or a label stands -/
structure Ann where
  α : Type
  /-- slots that are read again, and what they hold -/
  slots : List Nat
  vals : α → List AV
  /-- variables -/
  nb : Nat
  sS : α → St
  I : α → Prop
  μ : α → Nat
  mint : List (Nat × TypeId) := []
  bools : List Nat := []

def mintW (P : Program) : List (Nat × TypeId) → List AV → St → (List AV → St → Prop) → Prop
  | [], T, S, K => K T S
  | (t, e) :: l, T, S, K =>
    match T[t]?, sizeA P e with
    | some (.sl _ [] .nil), some sz => mintW P l (T.set t (.sl sz [] (.tok S.live.length))) { S with live := S.live ++ [(0, e)] } K
    | _, _ => mintW P l T S K

def cutTo (nb : Nat) (T : List AV) (S : St) : Option St :=
  if S.boxes.length ≤ nb then some S else
  if T.all (AV.p2 nb) && boxesOk nb (S.boxes.take nb) then some { S with boxes := S.boxes.take nb } else none

def headT (len : Nat) (slots : List Nat) (vs : List AV) : List AV := (List.range len).map fun i => ((slots.zip vs).lookup i).getD .junk

/-- what slots hold; what variables hold -/
structure ValsAre (a b : List AV) : Prop where
  eq : a = b
structure StIs (a b : St) : Prop where
  eq : a = b

def landW (n0 len : Nat) (an : Ann) (T : List AV) (S : St) (p : an.α → Prop) : Prop :=
  if n0 ≤ an.nb ∧ T.length = len then ∃ y, ValsAre (an.slots.map (fun i => T.getD i (.tup []))) (an.vals y) ∧ someK (cutTo an.nb (headT len an.slots (an.vals y)) S) (fun S' => StIs S' (an.sS y)) ∧ an.I y ∧ p y else False

def forkT : List Nat → List AV → (List AV → Prop) → Prop
  | [], T, K => K T
  | t :: l, T, K =>
    match T[t]? with
    | some (.bool b) => (b = true → forkT l (T.set t (.bool true)) K) ∧ (b = false → forkT l (T.set t (.bool false)) K)
    | _ => forkT l T K
theorem forkT_imp : ∀ {l : List Nat} {T : List AV} {K : List AV → Prop}, forkT l T K → K T
  | [], _, _, h => h
  | t :: l, T, K, h => by
    simp only [forkT] at h
    split at h
    · rename_i b hb
      have e : T.set t (.bool b) = T := by
        apply List.ext_getElem?
        intro j
        rw [List.getElem?_set]
        by_cases hj : t = j
        · subst hj
          have hlt := (List.getElem?_eq_some_iff.1 hb).1
          rw [if_pos rfl, if_pos hlt, hb]
        · simp [hj]
      cases b with
      | true => have := forkT_imp (h.1 rfl); rwa [e] at this
      | false => have := forkT_imp (h.2 rfl); rwa [e] at this
    · exact forkT_imp h

def loopW (P : Program) (an : Option Ann) (f : WStep) : WStep := fun T S K =>
  match an with
  | none => False
  | some an => (mintW P an.mint T S fun T' S' => landW S.boxes.length T.length an T' S' fun _ => True) ∧
    ∀ x, an.I x → forkT an.bools (headT T.length an.slots (an.vals x)) fun T' => f T' (an.sS x) fun e T'' S'' =>
      match e with
      | .normal => landW S.boxes.length T.length an T'' S'' fun y => an.μ y < an.μ x
      | e => K e T'' S''

/-- where a jump goes -/
def jumpK (n0 len : Nat) (A : Nat → Option Ann) (k : Nat → Option WStep) (p : Nat → Prop) (K : WK) : WK := fun e T S =>
  match e with
  | .goto l =>
    match k l with
    | none => K (.goto l) T S
    | some _ =>
      match A l with
      | none => False
      | some an => landW n0 len an T S fun y => p (an.μ y)
  | e => K e T S

def scopeW (A : Nat → Option Ann) (ls : List Nat) (f : WStep) (k : Nat → Option WStep) : WStep := fun T S K =>
  f T S (jumpK S.boxes.length T.length A k (fun _ => True) K) ∧
  ∀ l ∈ ls, match A l, k l with
    | some an, some g => ∀ x, an.I x → forkT an.bools (headT T.length an.slots (an.vals x)) fun T' => g T' (an.sS x) (jumpK S.boxes.length T.length A k (fun m => m < an.μ x) K)
    | none, _ => True
    | some _, none => True

def firstReg : Code → Nat
  | .region id _ _ => id
  | .seq a _ => firstReg a
  | .block _ b | .loop b | .scope b => firstReg b
  | _ => 0
def labelsOf : Code → List Nat
  | .seq a b => labelsOf a ++ labelsOf b
  | .label l => [l]
  | _ => []

structure Anns where
  loop : Nat → Option Ann
  label : Nat → Option Ann

mutual
def codeW (P : Program) (G : Glob) (X : Shapes) (R : Callee) (C : ICallee) (A : Anns) (m : List Bool) : Code → WStep
  | .skip => fun T S K => K .normal T S
  | .region _ ops draw => fun T S K => regionW P G X R C ops.toList draw T S fun T' S' => K .normal (maskA m T') S'
  | .seq a b => fun T S K => codeW P G X R C A m a T S (seqK (codeW P G X R C A m b) K)
  | .cond c x y => fun T S K =>
    match evA G T c with
    | .bool true => codeW P G X R C A m x T S K
    | .bool false => codeW P G X R C A m y T S K
    | _ => False
  | .block id b => fun T S K => codeW P G X R C A m b T S (blockK id K)
  | .loop b => loopW P (A.loop (firstReg b)) (codeW P G X R C A m b)
  | .exit id => fun T S K => K (.exit id) T S
  | .scope b => scopeW A.label (labelsOf b) (codeW P G X R C A m b) (fromW P G X R C A m b)
  | .label _ => fun T S K => K .normal T S
  | .goto l => fun T S K => K (.goto l) T S
  | .ret => fun T S K => K .ret T S
  | .rangeFunc .. => fun _ _ _ => False
  | .refuse _ => fun _ _ _ => False
def fromW (P : Program) (G : Glob) (X : Shapes) (R : Callee) (C : ICallee) (A : Anns) (m : List Bool) : Code → Nat → Option WStep
  | .seq a b => fun l =>
    match fromW P G X R C A m a l with
    | some f => some fun T S K => f T S (seqK (codeW P G X R C A m b) K)
    | none => fromW P G X R C A m b l
  | .label l' => fun l => if l' == l then some fun T S K => K .normal T S else none
  | _ => fun _ => none
end

def WOk (P : Program) (G : Glob) (N0 : Nat) (w0 : World) (I0 : Nat → Nat → Prop) (f : WStep) (c : Code) : Prop :=
  ∀ (T : List AV) (S : St) (K : WK) (E : Env) (a : Act) (w : World) (Q : Exit → Act → World → Prop), f T S K → SR P G N0 w0 I0 S E w → TR E w T a.tmps →
    (∀ x T' S' E' w' a', K x T' S' → SR P G N0 w0 I0 S' E' w' → Env.Le E E' w w' → TR E' w' T' a'.tmps → a'.defers = a.defers → Q x.to a' w') → c.wp P Q a w

section
variable {P : Program} {G : Glob} {N0 : Nat} {w0 : World} {I0 : Nat → Nat → Prop}

theorem regionW_ok {X : Shapes} {R : Callee} {C : ICallee} (hm : P.follows .mixedOrders = true) (hR : CalleeOk P G R) (hC : ICalleeOk P G C) {id : Nat} {ops : Array Oper} {draw : Bool} {m : List Bool} :
    WOk P G N0 w0 I0 (fun T S K => regionW P G X R C ops.toList draw T S fun T' S' => K .normal (maskA m T') S') (.region id ops draw) := by
  intro T S K E a w Q h hS hT hQ
  obtain ⟨T', S', h1, h2⟩ := regionW_imp h
  exact regionA_wp (m := m) hm hR hC T S .normal (maskA m T') S' E a w Q (by simp only [h1]) hS hT fun E' w' a' k1 k2 k3 k4 => hQ .normal _ _ E' w' a' h2 k1 k2 k3 k4

theorem seqW_ok {f g : WStep} {c d : Code} (hf : WOk P G N0 w0 I0 f c) (hg : WOk P G N0 w0 I0 g d) : WOk P G N0 w0 I0 (fun T S K => f T S (seqK g K)) (.seq c d) := by
  intro T S K E a w Q h hS hT hQ
  refine wp_seq (hf T S _ E a w _ h hS hT fun x T' S' E' w' a' hk k1 k2 k3 k4 => ?_)
  cases x with
  | normal => exact hg T' S' K E' a' w' Q hk k1 k3 fun x T2 S2 E2 w2 a2 l0 l1 l2 l3 l4 => hQ x T2 S2 E2 w2 a2 l0 l1 (k2.trans l2) l3 (l4.trans k4)
  | exit id => exact hQ _ _ _ E' w' a' hk k1 k2 k3 k4
  | goto l => exact hQ _ _ _ E' w' a' hk k1 k2 k3 k4
  | ret => exact hQ _ _ _ E' w' a' hk k1 k2 k3 k4

theorem blockW_ok {f : WStep} {c : Code} {id : Nat} (hf : WOk P G N0 w0 I0 f c) : WOk P G N0 w0 I0 (fun T S K => f T S (blockK id K)) (.block id c) := by
  intro T S K E a w Q h hS hT hQ
  refine wp_block (hf T S _ E a w _ h hS hT fun x T' S' E' w' a' hk k1 k2 k3 k4 => ?_)
  cases x with
  | normal => exact hQ _ _ _ E' w' a' hk k1 k2 k3 k4
  | goto l => exact hQ _ _ _ E' w' a' hk k1 k2 k3 k4
  | ret => exact hQ _ _ _ E' w' a' hk k1 k2 k3 k4
  | exit id' =>
    simp only [blockK] at hk
    show (if id' = id then Q .normal a' w' else Q (.exit id') a' w')
    split at hk
    · rename_i e; rw [if_pos e]; exact hQ _ _ _ E' w' a' hk k1 k2 k3 k4
    · rename_i e; rw [if_neg e]; exact hQ _ _ _ E' w' a' hk k1 k2 k3 k4

theorem rep_mint {E E' : Env} {w : World} {sz0 sz L : Nat} {v : Value} (h : Rep E w (.sl sz0 [] .nil) v) (hk : E'.K L 0 (.slice none 0 0)) : Rep E' w (.sl sz [] (.tok L)) v := by
  cases h with | sl _ _ _ A cap u hcap hmax hA hsz hcl ho hr h1 =>
  simp only [OwnOk] at ho
  injection ho with h1' h2 h3
  subst h1'; subst h3
  exact .sl sz [] (.tok L) none 0 u (by simp) (by simp [maxLen]) (.inl rfl) (by simp) (by simp) hk (by simp) h1

theorem mintW_ok {E0 : Env} {w1 w : World} {tm : Array Value} : ∀ {l : List (Nat × TypeId)} {T : List AV} {S : St} {E : Env} {K : List AV → St → Prop}, mintW P l T S K → SR P G N0 w0 I0 S E w → Env.Le E0 E w1 w → TR E w T tm →
    ∃ T' S' E', K T' S' ∧ S'.boxes = S.boxes ∧ SR P G N0 w0 I0 S' E' w ∧ Env.Le E0 E' w1 w ∧ TR E' w T' tm
  | [], T, S, E, K, h, hS, hL, hT => ⟨T, S, E, h, rfl, hS, hL, hT⟩
  | (t, e) :: l, T, S, E, K, h, hS, hL, hT => by
    simp only [mintW] at h
    split at h
    · rename_i sz0 sz ht hs
      obtain ⟨hS', hL'⟩ := hS.mint (e := e) hs
      obtain ⟨T', S', E', h1, h2, h3⟩ := mintW_ok (tm := tm) h hS' (hL.trans hL') (by
        refine ⟨by simp [hT.1], fun i c v hi hv => ?_⟩
        rw [List.getElem?_set] at hi
        by_cases hj : t = i
        · subst hj
          have hlt := (List.getElem?_eq_some_iff.1 ht).1
          rw [if_pos rfl, if_pos hlt] at hi
          injection hi with hi
          subst hi
          exact rep_mint (hT.2 t _ v ht hv) (.inr ⟨rfl, rfl, rfl⟩)
        · rw [if_neg hj] at hi
          exact (hT.2 i c v hi hv).le hL')
      exact ⟨T', S', E', h1, h2, h3⟩
    · exact mintW_ok h hS hL hT

theorem lookup_zip {g : Nat → AV} : ∀ {slots : List Nat} {vs : List AV} {i : Nat} {v : AV}, slots.map g = vs → (slots.zip vs).lookup i = some v → v = g i
  | [], vs, i, v, h, hl => by simp at hl
  | a :: slots, [], i, v, h, hl => by simp at hl
  | a :: slots, x :: vs, i, v, h, hl => by
    simp only [List.map_cons, List.cons.injEq] at h
    simp only [List.zip_cons_cons, List.lookup_cons] at hl
    split at hl
    · rename_i e
      simp only [beq_iff_eq] at e
      injection hl with hl
      rw [← hl, ← h.1, e]
    · exact lookup_zip h.2 hl

theorem headT_rep {E : Env} {w : World} {T : List AV} {tm : Array Value} (hT : TR E w T tm) {len : Nat} {slots : List Nat} {vs : List AV} (hl : T.length = len) (h : slots.map (fun i => T.getD i (.tup [])) = vs) : TR E w (headT len slots vs) tm := by
  refine ⟨by simp only [headT, List.length_map, List.length_range]; rw [← hl]; exact hT.1, fun i c v hi hv => ?_⟩
  simp only [headT, List.getElem?_map] at hi
  cases hr : (List.range len)[i]? with
  | none => simp [hr] at hi
  | some j =>
    have hj : j = i := by
      have := List.getElem?_eq_some_iff.1 hr
      obtain ⟨h1, h2⟩ := this
      simpa using h2.symm
    subst hj
    rw [hr] at hi
    simp only [Option.map_some, Option.some.injEq] at hi
    cases hlk : (slots.zip vs).lookup j with
    | none => rw [hlk] at hi; simp at hi; subst hi; exact .junk v
    | some x =>
      rw [hlk] at hi
      simp only [Option.getD_some] at hi
      subst hi
      rw [lookup_zip h hlk]
      have := hT.get j
      have hv' : tm.getD j undef = v := by
        have hlt := (Array.getElem?_eq_some_iff.1 hv).1
        simp only [Array.getD, hlt, dif_pos]
        exact (Array.getElem?_eq_some_iff.1 hv).2
      rw [hv'] at this
      exact this

theorem landW_ok {n0 len : Nat} {an : Ann} {T : List AV} {S S0 : St} {p : an.α → Prop} {E0 E : Env} {w1 w : World} {tm : Array Value} (h : landW n0 len an T S p) (hS0 : SR P G N0 w0 I0 S0 E0 w1) (hn : S0.boxes.length = n0)
    (hS : SR P G N0 w0 I0 S E w) (hL : Env.Le E0 E w1 w) (hT : TR E w T tm) : ∃ y E', SR P G N0 w0 I0 (an.sS y) E' w ∧ Env.Le E0 E' w1 w ∧ TR E' w (headT len an.slots (an.vals y)) tm ∧ an.I y ∧ p y := by
  unfold landW at h
  split at h
  · rename_i hle
    obtain ⟨hle, hlen⟩ := hle
    obtain ⟨y, ⟨h1⟩, h2, h3, h4⟩ := h
    obtain ⟨S2, h2, ⟨h2'⟩⟩ := someK_imp h2
    subst h2'
    have hT1 := headT_rep hT hlen h1
    unfold cutTo at h2
    split at h2
    · injection h2 with h2
      rw [h2] at hS
      exact ⟨y, E, hS, hL, hT1, h3, h4⟩
    · split at h2
      · rename_i hok
        simp only [Bool.and_eq_true] at hok
        injection h2 with h2
        have hc := hS.cut hok.2
        rw [h2] at hc
        refine ⟨y, _, hc, ⟨hL.I, fun b x hb => ?_, hL.K⟩, ⟨hT1.1, fun i c v hi hv => (hT1.2 i c v hi hv).cut (pb2 (List.all_eq_true.1 hok.1 c (List.mem_of_getElem? hi)))⟩, h3, h4⟩
        have := (hS0.Blt b x hb).1
        have hlt : b < an.nb := by omega
        simp [cutB, hlt, hL.B b x hb]
      · cases h2
  · exact h.elim

theorem loopW_ok {an : Option Ann} {f : WStep} {c : Code} (hf : WOk P G N0 w0 I0 f c) : WOk P G N0 w0 I0 (loopW P an f) (.loop c) := by
  intro T S K E a w Q h hS hT hQ
  cases an with
  | none => exact h.elim
  | some an =>
    obtain ⟨h0, hr⟩ := h
    obtain ⟨T1, S1, E1, k1, k2, k3, k4, k5⟩ := mintW_ok h0 hS (Env.Le.refl E w) hT
    obtain ⟨y, E2, l1, l2, l3, l4, _⟩ := landW_ok k1 hS rfl k3 k4 k5
    refine wp_loop_ghost (fun n a' w' => ∃ y E', an.μ y = n ∧ an.I y ∧ SR P G N0 w0 I0 (an.sS y) E' w' ∧ Env.Le E E' w w' ∧ TR E' w' (headT T.length an.slots (an.vals y)) a'.tmps ∧ a'.defers = a.defers) (an.μ y) ⟨y, E2, rfl, l4, l1, l2, l3, rfl⟩ ?_
    rintro n a1 w1 ⟨y, E', hn, hI, hS', hL', hT', hd'⟩
    refine hf _ _ _ E' a1 w1 _ (forkT_imp (hr y hI)) hS' hT' fun x T2 S2 E2 w2 a2 hk m1 m2 m3 m4 => ?_
    cases x with
    | normal =>
      obtain ⟨z, E3, q1, q2, q3, q4, q5⟩ := landW_ok hk hS rfl m1 (hL'.trans m2) m3
      exact ⟨an.μ z, by omega, z, E3, rfl, q4, q1, q2, q3, m4.trans hd'⟩
    | exit id => exact hQ _ _ _ E2 w2 a2 hk m1 (hL'.trans m2) m3 (m4.trans hd')
    | goto l => exact hQ _ _ _ E2 w2 a2 hk m1 (hL'.trans m2) m3 (m4.trans hd')
    | ret => exact hQ _ _ _ E2 w2 a2 hk m1 (hL'.trans m2) m3 (m4.trans hd')

/-- a scope: every jump lowers a number -/
theorem wp_scope_inv {b : Code} {Q : Exit → Act → World → Prop} {a : Act} {w : World} (J : Nat → Nat → Act → World → Prop)
    (h0 : b.wp P (fun e a' w' => match e with
      | .goto l => match findLabel b l with
        | some _ => ∃ m, J l m a' w'
        | none => Q (.goto l) a' w'
      | e => Q e a' w') a w)
    (hr : ∀ l m a w rest, findLabel b l = some rest → J l m a w → rest.wp P (fun e a' w' => match e with
      | .goto l => match findLabel b l with
        | some _ => ∃ m', m' < m ∧ J l m' a' w'
        | none => Q (.goto l) a' w'
      | e => Q e a' w') a w) : (Code.scope b).wp P Q a w := by
  intro fr k cs
  have key : ∀ (m : Nat) l a w rest, findLabel b l = some rest → J l m a w → ∃ e a' w', Q e a' w' ∧ Arrives P (lone (fr.at a (.code rest :: .inScope b :: k)) cs w) fr k cs e a' w' := by
    intro m
    induction m using Nat.strongRecOn with
    | _ m ih =>
      intro l a w rest hl hJ
      obtain ⟨e, a₁, w₁, hq, harr⟩ := hr l m a w rest hl hJ fr (.inScope b :: k) cs
      cases e with
      | normal => exact ⟨.normal, a₁, w₁, hq, Steps.trans harr (.one step_inScope)⟩
      | exit id => exact ⟨.exit id, a₁, w₁, hq, fun k' hk => harr k' (by simp [exitTo, hk])⟩
      | goto l' =>
        simp only at hq
        split at hq
        · rename_i rest' hr'
          obtain ⟨m', hlt, hJ'⟩ := hq
          obtain ⟨e₂, a₂, w₂, hq₂, harr₂⟩ := ih m' hlt l' a₁ w₁ rest' hr' hJ'
          exact ⟨e₂, a₂, w₂, hq₂, .of_steps (harr _ (by simp [gotoIn, hr'])) harr₂⟩
        · rename_i hr'
          exact ⟨.goto l', a₁, w₁, hq, fun k' hk => harr k' (by simp [gotoIn, hr', hk])⟩
      | ret => exact ⟨_, a₁, w₁, hq, harr⟩
      | panic ch => exact ⟨_, a₁, w₁, hq, harr⟩
      | outgrown => exact ⟨_, a₁, w₁, hq, harr⟩
  have fin : ∃ e a' w', Q e a' w' ∧ Arrives P (lone (fr.at a (.code b :: .inScope b :: k)) cs w) fr k cs e a' w' := by
    obtain ⟨e, a₁, w₁, hq, harr⟩ := h0 fr (.inScope b :: k) cs
    cases e with
    | normal => exact ⟨.normal, a₁, w₁, hq, Steps.trans harr (.one step_inScope)⟩
    | exit id => exact ⟨.exit id, a₁, w₁, hq, fun k' hk => harr k' (by simp [exitTo, hk])⟩
    | goto l' =>
      simp only at hq
      split at hq
      · rename_i rest' hr'
        obtain ⟨m', hJ'⟩ := hq
        obtain ⟨e₂, a₂, w₂, hq₂, harr₂⟩ := key m' l' a₁ w₁ rest' hr' hJ'
        exact ⟨e₂, a₂, w₂, hq₂, .of_steps (harr _ (by simp [gotoIn, hr'])) harr₂⟩
      · rename_i hr'
        exact ⟨.goto l', a₁, w₁, hq, fun k' hk => harr k' (by simp [gotoIn, hr', hk])⟩
    | ret => exact ⟨_, a₁, w₁, hq, harr⟩
    | panic ch => exact ⟨_, a₁, w₁, hq, harr⟩
    | outgrown => exact ⟨_, a₁, w₁, hq, harr⟩
  obtain ⟨e, a', w', hq, harr⟩ := fin
  exact ⟨e, a', w', hq, .of_steps (.one step_scope) harr⟩

theorem mem_labelsOf : ∀ {b : Code} {l : Nat} {rest : Code}, findLabel b l = some rest → l ∈ labelsOf b := by
  intro b
  induction b with
  | seq a b iha ihb =>
    intro l rest h
    simp only [findLabel] at h
    simp only [labelsOf, List.mem_append]
    cases ha : findLabel a l with
    | some r => exact .inl (iha ha)
    | none => rw [ha] at h; exact .inr (ihb h)
  | label l' =>
    intro l rest h
    simp only [findLabel] at h
    split at h
    · rename_i e; simp at e; simp [labelsOf, e]
    · cases h
  | _ => intro l rest h; simp [findLabel] at h

theorem scopeW_ok {b : Code} {A : Nat → Option Ann} {k : Nat → Option WStep} (hk : ∀ l, (∀ g, k l = some g → ∃ rest, findLabel b l = some rest ∧ WOk P G N0 w0 I0 g rest) ∧ (k l = none → findLabel b l = none)) {f : WStep} (hf : WOk P G N0 w0 I0 f b) :
    WOk P G N0 w0 I0 (scopeW A (labelsOf b) f k) (.scope b) := by
  intro T S K E a w Q h hS hT hQ
  obtain ⟨h0, hr⟩ := h
  have post : ∀ {p : Nat → Prop} {x : AExit} {T' : List AV} {S' : St} {E' : Env} {w' : World} {a' : Act}, jumpK S.boxes.length T.length A k p K x T' S' → SR P G N0 w0 I0 S' E' w' → Env.Le E E' w w' → TR E' w' T' a'.tmps → a'.defers = a.defers →
      (match x.to with
      | .goto l => match findLabel b l with
        | some _ => ∃ m, p m ∧ ∃ an y E'', A l = some an ∧ an.μ y = m ∧ an.I y ∧ SR P G N0 w0 I0 (an.sS y) E'' w' ∧ Env.Le E E'' w w' ∧ TR E'' w' (headT T.length an.slots (an.vals y)) a'.tmps ∧ a'.defers = a.defers
        | none => Q (.goto l) a' w'
      | e => Q e a' w') := by
    intro p x T' S' E' w' a' hj k1 k2 k3 k4
    cases x with
    | normal => exact hQ _ _ _ E' w' a' hj k1 k2 k3 k4
    | exit id => exact hQ _ _ _ E' w' a' hj k1 k2 k3 k4
    | ret => exact hQ _ _ _ E' w' a' hj k1 k2 k3 k4
    | goto l =>
      simp only [AExit.to]
      simp only [jumpK] at hj
      cases hkl : k l with
      | none =>
        rw [hkl] at hj
        rw [(hk l).2 hkl]
        exact hQ _ _ _ E' w' a' hj k1 k2 k3 k4
      | some g =>
        rw [hkl] at hj
        obtain ⟨rest, hrest, _⟩ := (hk l).1 g hkl
        rw [hrest]
        cases hA : A l with
        | none => rw [hA] at hj; exact hj.elim
        | some an =>
          rw [hA] at hj
          obtain ⟨y, E2, q1, q2, q3, q4, q5⟩ := landW_ok hj hS rfl k1 k2 k3
          exact ⟨an.μ y, q5, an, y, E2, rfl, rfl, q4, q1, q2, q3, k4⟩
  refine wp_scope_inv (fun l m a' w' => ∃ an y E'', A l = some an ∧ an.μ y = m ∧ an.I y ∧ SR P G N0 w0 I0 (an.sS y) E'' w' ∧ Env.Le E E'' w w' ∧ TR E'' w' (headT T.length an.slots (an.vals y)) a'.tmps ∧ a'.defers = a.defers) ?_ ?_
  · refine hf T S _ E a w _ h0 hS hT fun x T' S' E' w' a' hj k1 k2 k3 k4 => ?_
    have := post hj k1 k2 k3 k4
    cases x with
    | normal => exact this
    | exit id => exact this
    | ret => exact this
    | goto l =>
      simp only [AExit.to] at this ⊢
      split at this
      · obtain ⟨m, _, hm⟩ := this; exact ⟨m, hm⟩
      · exact this
  · rintro l m a1 w1 rest hl ⟨an, y, E1, hA, hm, hI, hS1, hL1, hT1, hd1⟩
    have hml := hr l (mem_labelsOf hl)
    rw [hA] at hml
    cases hkl : k l with
    | none => rw [(hk l).2 hkl] at hl; cases hl
    | some g =>
      rw [hkl] at hml
      obtain ⟨rest', hr', hg⟩ := (hk l).1 g hkl
      rw [hl] at hr'; injection hr' with hr'; subst hr'
      refine hg _ _ _ E1 a1 w1 _ (forkT_imp (hml y hI)) hS1 hT1 fun x T' S' E' w' a' hj k1 k2 k3 k4 => ?_
      have := post hj k1 (hL1.trans k2) k3 (k4.trans hd1)
      cases x with
      | normal => exact this
      | exit id => exact this
      | ret => exact this
      | goto l' =>
        simp only [AExit.to] at this ⊢
        split at this
        · obtain ⟨m', hlt, hm'⟩ := this; exact ⟨m', by omega, hm'⟩
        · exact this

theorem skipW_ok (x : AExit) (c : Code) (h : ∀ (Q : Exit → Act → World → Prop) (a : Act) (w : World), Q x.to a w → c.wp P Q a w) : WOk P G N0 w0 I0 (fun T S K => K x T S) c := by
  intro T S K E a w Q hh hS hT hQ
  exact h Q a w (hQ x T S E w a hh hS (Env.Le.refl _ _) hT rfl)

theorem codeW_ok {X : Shapes} {R : Callee} {C : ICallee} (hm : P.follows .mixedOrders = true) (hR : CalleeOk P G R) (hC : ICalleeOk P G C) (A : Anns) (m : List Bool) : ∀ (c : Code), WOk P G N0 w0 I0 (codeW P G X R C A m c) c ∧
    ∀ l, (∀ g, fromW P G X R C A m c l = some g → ∃ rest, findLabel c l = some rest ∧ WOk P G N0 w0 I0 g rest) ∧ (fromW P G X R C A m c l = none → findLabel c l = none) := by
  intro c
  induction c with
  | skip => exact ⟨by rw [codeW]; exact skipW_ok .normal _ fun Q a w h => wp_skip h, fun l => ⟨fun g h => by simp [fromW] at h, fun _ => rfl⟩⟩
  | region id ops draw => exact ⟨by rw [codeW]; exact regionW_ok hm hR hC, fun l => ⟨fun g h => by simp [fromW] at h, fun _ => rfl⟩⟩
  | seq a b iha ihb =>
    refine ⟨by rw [codeW]; exact seqW_ok iha.1 ihb.1, fun l => ⟨fun g h => ?_, fun h => ?_⟩⟩
    · simp only [fromW] at h
      split at h
      · rename_i f hf
        simp only [Option.some.injEq] at h
        subst h
        obtain ⟨rest, hr, hok⟩ := (iha.2 l).1 f hf
        exact ⟨.seq rest b, by simp [findLabel, hr], seqW_ok hok ihb.1⟩
      · rename_i hf
        obtain ⟨rest, hr, hok⟩ := (ihb.2 l).1 g h
        exact ⟨rest, by simp [findLabel, (iha.2 l).2 hf, hr], hok⟩
    · simp only [fromW] at h
      split at h
      · cases h
      · rename_i hf
        simp [findLabel, (iha.2 l).2 hf, (ihb.2 l).2 h]
  | cond c x y ihx ihy =>
    refine ⟨?_, fun l => ⟨fun g h => by simp [fromW] at h, fun _ => rfl⟩⟩
    rw [codeW]
    intro T S K E a w Q h hS hT hQ
    have hc := evA_rep hS.glob hT c
    split at h
    · rename_i he
      rw [he] at hc
      exact wp_cond (rep_bool hc) (by simpa using ihx.1 _ _ _ E a w Q h hS hT hQ)
    · rename_i he
      rw [he] at hc
      exact wp_cond (rep_bool hc) (by simpa using ihy.1 _ _ _ E a w Q h hS hT hQ)
    · exact h.elim
  | block id b ih => exact ⟨by rw [codeW]; exact blockW_ok ih.1, fun l => ⟨fun g h => by simp [fromW] at h, fun _ => rfl⟩⟩
  | loop b ih => exact ⟨by rw [codeW]; exact loopW_ok ih.1, fun l => ⟨fun g h => by simp [fromW] at h, fun _ => rfl⟩⟩
  | rangeFunc f ps as b _ _ => exact ⟨(by rw [codeW]; intro T S K E a w Q h; exact h.elim), fun l => ⟨fun g h => by simp [fromW] at h, fun _ => rfl⟩⟩
  | exit id => exact ⟨by rw [codeW]; exact skipW_ok (.exit id) _ fun Q a w h => wp_exit h, fun l => ⟨fun g h => by simp [fromW] at h, fun _ => rfl⟩⟩
  | scope b ih => exact ⟨by rw [codeW]; exact scopeW_ok ih.2 ih.1, fun l => ⟨fun g h => by simp [fromW] at h, fun _ => rfl⟩⟩
  | label l' =>
    refine ⟨by rw [codeW]; exact skipW_ok .normal _ fun Q a w h => wp_label h, fun l => ⟨fun g h => ?_, fun h => ?_⟩⟩
    · simp only [fromW] at h
      split at h
      · rename_i he
        simp only [Option.some.injEq] at h
        subst h
        exact ⟨.skip, by simp [findLabel, he], skipW_ok .normal _ fun Q a w h => wp_skip h⟩
      · cases h
    · simp only [fromW] at h
      split at h
      · cases h
      · rename_i he
        simp [findLabel, he]
  | goto l' => exact ⟨by rw [codeW]; exact skipW_ok (.goto l') _ fun Q a w h => wp_goto h, fun l => ⟨fun g h => by simp [fromW] at h, fun _ => rfl⟩⟩
  | ret => exact ⟨by rw [codeW]; exact skipW_ok .ret _ fun Q a w h => wp_ret h, fun l => ⟨fun g h => by simp [fromW] at h, fun _ => rfl⟩⟩
  | refuse s => exact ⟨(by rw [codeW]; intro T S K E a w Q h; exact h.elim), fun l => ⟨fun g h => by simp [fromW] at h, fun _ => rfl⟩⟩
end
end Go.Abs
