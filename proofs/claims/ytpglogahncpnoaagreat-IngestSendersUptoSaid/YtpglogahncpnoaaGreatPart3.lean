/- Own texts, part 3. -/
import Derived.Test.YtpglogahncpnoaaGreatPart2
import Derived.Deep.LoopGhost
import Derived.LoopN
import Derived.Lib.BytesEntry
import Derived.Lib.IndexMore
import Derived.Laws.Externs
import Derived.KernelRfl
import Derived.ProofKit
import Derived.OpenShut
import Derived.ChangeMaps5
import Derived.JoinedCond
import Derived.Deep.Slices
import Derived.Deep.DeepHandedRow

namespace Go.Abs
open Go.RowKit

def stepW (P : Program) (G : Glob) (X : Shapes) (R : Callee) (C : CCallee) (ops : List Oper) (bid : Nat) (o : Oper) (T : List AV) (S : St) (K : AV → St → Prop) : Prop :=
  match guardA ops T o with
  | some true => opW P X R C (evA G T) bid S o.op K
  | some false => K (.tup []) S
  | none => False
theorem stepW_imp {P : Program} {G : Glob} {X : Shapes} {R : Callee} {C : CCallee} {ops : List Oper} {bid : Nat} {o : Oper} {T : List AV} {S : St} {K : AV → St → Prop} (h : stepW P G X R C ops bid o T S K) :
    ∃ r S', stepA P G R (lowC C) ops bid o T S = some (r, S') ∧ K r S' := by
  unfold stepW at h
  unfold stepA
  split at h
  · rename_i hg
    rw [hg]
    exact opW_imp h
  · rename_i hg
    rw [hg]
    exact ⟨_, _, rfl, h⟩
  · exact h.elim

def listW (P : Program) (G : Glob) (X : Shapes) (R : Callee) (C : CCallee) (ops : List Oper) : List Oper → Nat → List AV → St → (List AV → St → Prop) → Prop
  | [], _, T, S, K => K T S
  | o :: l, bid, T, S, K => stepW P G X R C ops bid o T S fun r S' => listW P G X R C ops l (nextBid o bid) (putA T o.dst r) S' K
theorem listW_imp {P : Program} {G : Glob} {X : Shapes} {R : Callee} {C : CCallee} {ops : List Oper} : ∀ {l : List Oper} {bid : Nat} {T : List AV} {S : St} {K : List AV → St → Prop}, listW P G X R C ops l bid T S K →
    ∃ T' S', listA P G R (lowC C) ops l bid T S = some (T', S') ∧ K T' S'
  | [], _, _, _, _, h => ⟨_, _, rfl, h⟩
  | o :: l, bid, T, S, K, h => by
    obtain ⟨r, S1, h1, h⟩ := stepW_imp h
    obtain ⟨T', S', h2, h⟩ := listW_imp h
    exact ⟨T', S', by simp only [listA, h1, h2], h⟩

def logW (P : Program) (G : Glob) (X : Shapes) (R : Callee) (ops : List Oper) : List Oper → Nat → List AV → St → (List (List Loc × List Loc) → List AV → St → Prop) → Prop
  | [], _, T, S, K => K [] T S
  | o :: l, bid, T, S, K => stepW P G X R noCC ops bid o T S fun r S' => logW P G X R ops l (nextBid o bid) (putA T o.dst r) S' fun lg => K (entA G ops T bid S S' o :: lg)
theorem logW_imp {P : Program} {G : Glob} {X : Shapes} {R : Callee} {ops : List Oper} : ∀ {l : List Oper} {bid : Nat} {T : List AV} {S : St} {K : List (List Loc × List Loc) → List AV → St → Prop}, logW P G X R ops l bid T S K →
    ∃ lg T' S', logA P G R ops l bid T S = some (lg, T', S') ∧ K lg T' S'
  | [], _, _, _, _, h => ⟨_, _, _, rfl, h⟩
  | o :: l, bid, T, S, K, h => by
    obtain ⟨r, S1, h1, h⟩ := stepW_imp h
    rw [lowC_no] at h1
    obtain ⟨lg, T', S', h2, h⟩ := logW_imp h
    exact ⟨_, T', S', by simp only [logA, h1, h2], h⟩

def regionW (P : Program) (G : Glob) (X : Shapes) (R : Callee) (C : CCallee) (ops : List Oper) (draw : Bool) (T : List AV) (S : St) (K : List AV → St → Prop) : Prop :=
  if draw then
    if drawOk ops then logW P G X R ops ops S.boxes.length T (roomFor ops S) fun lg T' S' => if confOk ops lg then K T' S' else False
    else False
  else listW P G X R C ops ops S.boxes.length T (roomFor ops S) K
theorem regionW_imp {P : Program} {G : Glob} {X : Shapes} {R : Callee} {C : CCallee} {ops : List Oper} {draw : Bool} {T : List AV} {S : St} {K : List AV → St → Prop} (h : regionW P G X R C ops draw T S K) :
    ∃ T' S', regionA P G R (lowC C) ops draw T S = some (T', S') ∧ K T' S' := by
  unfold regionW at h
  unfold regionA
  split at h
  · rename_i hd
    rw [if_pos hd]
    split at h
    · rename_i ho
      rw [if_pos ho]
      obtain ⟨lg, T', S', h1, h⟩ := logW_imp h
      split at h
      · rename_i hc
        simp only [h1]
        rw [if_pos hc]
        exact ⟨_, _, rfl, h⟩
      · exact h.elim
    · exact h.elim
  · rename_i hd
    rw [if_neg hd]
    exact listW_imp h

abbrev WK := AExit → List AV → St → Prop
abbrev WStep := List AV → St → WK → Prop

def seqK (f : WStep) (K : WK) : WK := fun x T S =>
  match x with
  | .normal => f T S K
  | x => K x T S
def blockK (id : Nat) (K : WK) : WK := fun x T S =>
  match x with
  | .exit id' => if id' = id then K .normal T S else K (.exit id') T S
  | x => K x T S

/-- what holds where a loop begins, or a label stands -/
structure Ann where
  α : Type
  /-- slots that are read again, and what they hold -/
  slots : List Nat
  vals : α → List AV
  /-- variables -/
  nb : Nat
  sS : α → St
  I : α → Prop
  μ : α → Nat
  mint : List (Nat × TypeId) := []
  /-- variables that hold nil slices which will be appended to -/
  mintB : List (Nat × TypeId) := []
  bools : List Nat := []
  /-- a loop of few rounds: walked round by round -/
  unroll : Nat := 0
  /-- rounds walked ahead of the annotation -/
  peel : Nat := 0
  /-- how many owners are kept where it lands -/
  keep : Option Nat := none
  /-- slots whose slices are written no more -/
  give : List Nat := []
  /-- at a cut: what the state has to do with the slots ahead -/
  rel : List AV → α → Prop := fun _ _ => True
  /-- at a loop inside a loop: what it has to do with the slots ahead -/
  link : Option (List AV → α → Prop) := none

def mintW (P : Program) : List (Nat × TypeId) → List AV → St → (List AV → St → Prop) → Prop
  | [], T, S, K => K T S
  | (t, e) :: l, T, S, K =>
    match T[t]?, sizeA P e with
    | some (.sl _ es .nil), some sz =>
      match es with
      | [] => mintW P l (T.set t (.sl sz [] (.tok S.live.length))) { S with live := S.live ++ [(0, e)] } K
      | _ => mintW P l T S K
    | _, _ => mintW P l T S K

def mintBW (P : Program) : List (Nat × TypeId) → St → (St → Prop) → Prop
  | [], S, K => K S
  | (b, e) :: l, S, K =>
    match S.boxes[b % 1000]?, sizeA P e with
    | some (some cs), some sz =>
      match cs[b / 1000]? with
      | some (.sl _ [] .nil) =>
        if isRow cs = true ∧ isRow (cs.set (b / 1000) (.sl sz [] (.tok S.live.length))) = true then mintBW P l { boxes := S.boxes.set (b % 1000) (some (cs.set (b / 1000) (.sl sz [] (.tok S.live.length)))), live := S.live ++ [(0, e)] } K else mintBW P l S K
      | _ => mintBW P l S K
    | _, _ => mintBW P l S K

def cutTo (nb : Nat) (T : List AV) (S : St) : Option St :=
  if S.boxes.length ≤ nb then some S else
  if T.all (AV.p2 nb) && boxesOk nb (S.boxes.take nb) then some { S with boxes := S.boxes.take nb } else none

def headT (len : Nat) (slots : List Nat) (vs : List AV) : List AV := (List.range len).map fun i => ((slots.zip vs).lookup i).getD .junk

/-- what slots hold; what variables hold -/
structure ValsAre (a b : List AV) : Prop where
  eq : a = b
structure StIs (a b : St) : Prop where
  eq : a = b

def landV (n0 len : Nat) (an : Ann) (T : List AV) (S : St) (p : an.α → Prop) : Prop :=
  if n0 ≤ an.nb ∧ T.length = len then ∃ y, ValsAre (an.slots.map (fun i => T.getD i (.tup []))) (an.vals y) ∧ someK (cutTo an.nb (headT len an.slots (an.vals y)) S) (fun S' => StIs S' (an.sS y)) ∧ an.I y ∧ p y else False

def landW (n0 l0 len : Nat) (an : Ann) (T : List AV) (S : St) (p : an.α → Prop) : Prop :=
  match an.keep with
  | none => landV n0 len an T S p
  | some n => if l0 ≤ n ∧ boxesT n S.boxes = true then landV n0 len an (T.map (stripT n)) { S with live := S.live.take n } p else False

def giveTW : List Nat → List AV → St → (List AV → St → Prop) → Prop
  | [], T, S, K => K T S
  | t :: l, T, S, K =>
    match T[t]? with
    | some v => giveW S v fun v' S' => giveTW l (T.set t v') S' K
    | none => False
def landM (P : Program) (n0 l0 len : Nat) (an : Ann) (T : List AV) (S : St) (p : an.α → Prop) : Prop :=
  mintW P an.mint T S fun T' S' => mintBW P an.mintB S' fun S'' => giveTW an.give T' S'' fun T2 S2 => landW n0 l0 len an T2 S2 p

def forkT : List Nat → List AV → (List AV → Prop) → Prop
  | [], T, K => K T
  | t :: l, T, K =>
    match T[t]? with
    | some (.bool b) => (b = true → forkT l (T.set t (.bool true)) K) ∧ (b = false → forkT l (T.set t (.bool false)) K)
    | _ => forkT l T K
theorem forkT_imp : ∀ {l : List Nat} {T : List AV} {K : List AV → Prop}, forkT l T K → K T
  | [], _, _, h => h
  | t :: l, T, K, h => by
    simp only [forkT] at h
    split at h
    · rename_i b hb
      have e : T.set t (.bool b) = T := by
        apply List.ext_getElem?
        intro j
        rw [List.getElem?_set]
        by_cases hj : t = j
        · subst hj
          have hlt := (List.getElem?_eq_some_iff.1 hb).1
          rw [if_pos rfl, if_pos hlt, hb]
        · simp [hj]
      cases b with
      | true => have := forkT_imp (h.1 rfl); rwa [e] at this
      | false => have := forkT_imp (h.2 rfl); rwa [e] at this
    · exact forkT_imp h

/-- where a tool may stop and look -/
abbrev Mk := List AV → St → (List AV → St → Prop) → Prop
def idMk : Mk := fun T S p => p T S

def unrollW (f : WStep) : Nat → WStep
  | 0 => fun _ _ _ => False
  | n + 1 => fun T S K => f T S fun e T' S' =>
    match e with
    | .normal => unrollW f n T' S' K
    | e => K e T' S'
def annW (P : Program) (mk : Mk) (an : Ann) (f : WStep) : WStep := fun T S K =>
  match an.link with
  | none =>
    landM P S.boxes.length S.live.length T.length an T S (fun _ => True) ∧
    ∀ x, an.I x → forkT an.bools (headT T.length an.slots (an.vals x)) fun T' => mk T' (an.sS x) fun T' S0 => f T' S0 fun e T'' S'' =>
      match e with
      | .normal => landW S.boxes.length S.live.length T.length an T'' S'' fun y => an.μ y < an.μ x
      | e => K e T'' S''
  | some r =>
    landM P S.boxes.length S.live.length T.length an T S (r T) ∧
    ∀ x, an.I x → r T x → forkT an.bools (headT T.length an.slots (an.vals x)) fun T' => mk T' (an.sS x) fun T' S0 => f T' S0 fun e T'' S'' =>
      match e with
      | .normal => landW S.boxes.length S.live.length T.length an T'' S'' fun y => r T y ∧ an.μ y < an.μ x
      | e => K e T'' S''
def peelW (f g : WStep) : Nat → WStep
  | 0 => g
  | n + 1 => fun T S K => f T S fun e T' S' =>
    match e with
    | .normal => peelW f g n T' S' K
    | e => K e T' S'
def loopW (P : Program) (mk : Mk) (an : Option Ann) (f : WStep) : WStep := fun T S K =>
  match an with
  | none => False
  | some an =>
    match an.unroll with
    | n + 1 => unrollW f (n + 1) T S K
    | 0 => peelW f (annW P mk an f) an.peel T S K

def firstReg : Code → Nat
  | .region id _ _ => id
  | .seq a _ => firstReg a
  | .block _ b | .loop b | .scope b => firstReg b
  | _ => 0
/-- code behind code; where an annotation stands the second is shown once -/
def cutW (P : Program) (mk : Mk) (an : Option Ann) (f g : WStep) : WStep := fun T S K =>
  match an with
  | none => f T S (seqK g K)
  | some an => (f T S fun e T' S' =>
      match e with
      | .normal => landM P S.boxes.length S.live.length T.length an T' S' (an.rel T)
      | e => K e T' S') ∧
    ∀ x, an.I x → an.rel T x → forkT an.bools (headT T.length an.slots (an.vals x)) fun T' => mk T' (an.sS x) fun T' S0 => g T' S0 K
/-- the number of a cut ahead of a region -/
abbrev cutAt (id : Nat) : Nat := 1000000 + id

/-- what is to be shown where a label is come to from ahead -/
abbrev Ld := Nat → Option (List AV → St → Prop)
def noLd : Ld := fun _ => none
def ldOf (P : Program) (n0 l0 len : Nat) (A : Nat → Option Ann) (p : Nat → Prop) : Ld := fun l => (A l).map fun an T S => landM P n0 l0 len an T S fun y => p (an.μ y)

/-- where a jump goes -/
def jumpK (P : Program) (n0 l0 len : Nat) (A : Nat → Option Ann) (ls : List Nat) (p : Nat → Prop) (K : WK) : WK := fun e T S =>
  match e with
  | .goto l =>
    if l ∈ ls then
      match A l with
      | none => False
      | some an => landM P n0 l0 len an T S fun y => p (an.μ y)
    else K (.goto l) T S
  | e => K e T S

def allL (p : Nat → Prop) : List Nat → Prop
  | [] => True
  | l :: ls => p l ∧ allL p ls
theorem allL_mem {p : Nat → Prop} : ∀ {ls : List Nat}, allL p ls → ∀ l ∈ ls, p l
  | [], _, l, h => by simp at h
  | a :: ls, h, l, hl => by
    rcases List.mem_cons.1 hl with rfl | hl
    · exact h.1
    · exact allL_mem h.2 l hl
def scopeW (P : Program) (mk : Mk) (A : Nat → Option Ann) (ls : List Nat) (f : Ld → WStep) (k : Ld → Nat → Option WStep) : WStep := fun T S K =>
  if ls.Nodup then
    f (ldOf P S.boxes.length S.live.length T.length A fun _ => True) T S (jumpK P S.boxes.length S.live.length T.length A ls (fun _ => True) K) ∧
    allL (fun l => match A l with
      | some an => ∀ x, an.I x → forkT an.bools (headT T.length an.slots (an.vals x)) fun T' =>
        match k (ldOf P S.boxes.length S.live.length T.length A fun m => m < an.μ x) l with
        | some g => mk T' (an.sS x) fun T' S0 => g T' S0 (jumpK P S.boxes.length S.live.length T.length A ls (fun m => m < an.μ x) K)
        | none => False
      | none => True) ls
  else False

def labelsOf : Code → List Nat
  | .seq a b => labelsOf a ++ labelsOf b
  | .label l => [l]
  | _ => []

structure Anns where
  loop : Nat → Option Ann
  label : Nat → Option Ann

mutual
def codeW (P : Program) (mk : Mk) (G : Glob) (X : Shapes) (R : Callee) (C : CCallee) (A : Anns) (m : List Bool) : Code → Ld → WStep
  | .skip => fun _ T S K => K .normal T S
  | .region _ ops draw => fun _ T S K => regionW P G X R C ops.toList draw T S fun T' S' => mk (maskA m T') S' (K .normal)
  | .seq a b => fun ld => cutW P mk (A.loop (cutAt (firstReg b))) (codeW P mk G X R C A m a ld) (codeW P mk G X R C A m b ld)
  | .cond c x y => fun _ T S K =>
    match evA G T c with
    | .bool true => codeW P mk G X R C A m x noLd T S K
    | .bool false => codeW P mk G X R C A m y noLd T S K
    | _ => False
  | .block id b => fun _ T S K => codeW P mk G X R C A m b noLd T S (blockK id K)
  | .loop b => fun _ => loopW P mk (A.loop (firstReg b)) (codeW P mk G X R C A m b noLd)
  | .exit id => fun _ T S K => K (.exit id) T S
  | .scope b => fun _ => scopeW P mk A.label (labelsOf b) (codeW P mk G X R C A m b) (fromW P mk G X R C A m b)
  | .label l => fun ld T S K =>
    match ld l with
    | some p => p T S
    | none => K .normal T S
  | .goto l => fun _ T S K => K (.goto l) T S
  | .ret => fun _ T S K => K .ret T S
  | .rangeFunc .. => fun _ _ _ _ => False
  | .refuse _ => fun _ _ _ _ => False
def fromW (P : Program) (mk : Mk) (G : Glob) (X : Shapes) (R : Callee) (C : CCallee) (A : Anns) (m : List Bool) : Code → Ld → Nat → Option WStep
  | .seq a b => fun ld l =>
    match fromW P mk G X R C A m a ld l with
    | some f => some fun T S K => f T S (seqK (codeW P mk G X R C A m b ld) K)
    | none => fromW P mk G X R C A m b ld l
  | .label l' => fun _ l => if l' == l then some fun T S K => K .normal T S else none
  | _ => fun _ _ => none
end

def WOk (P : Program) (G : Glob) (N0 : Nat) (w0 : World) (I0 : Nat → Nat → Prop) (f : WStep) (c : Code) : Prop :=
  ∀ (T : List AV) (S : St) (K : WK) (E : Env) (a : Act) (w : World) (Q : Exit → Act → World → Prop), f T S K → SR P G N0 w0 I0 S E w → TR E w T a.tmps →
    (∀ x T' S' E' w' a', K x T' S' → SR P G N0 w0 I0 S' E' w' → Env.Le E E' w w' → TR E' w' T' a'.tmps → a'.defers = a.defers → Q x.to a' w') → c.wp P Q a w

section
variable {P : Program} {G : Glob} {N0 : Nat} {w0 : World} {I0 : Nat → Nat → Prop}

theorem regionW_ok {X : Shapes} {R : Callee} {C : CCallee} (hm : P.follows .mixedOrders = true) (hR : CalleeOk P G R) (hC : ICalleeOk P G (lowC C)) {id : Nat} {ops : Array Oper} {draw : Bool} {m : List Bool} :
    WOk P G N0 w0 I0 (fun T S K => regionW P G X R C ops.toList draw T S fun T' S' => K .normal (maskA m T') S') (.region id ops draw) := by
  intro T S K E a w Q h hS hT hQ
  obtain ⟨T', S', h1, h2⟩ := regionW_imp h
  exact regionA_wp (m := m) hm hR hC T S .normal (maskA m T') S' E a w Q (by simp only [h1]) hS hT fun E' w' a' k1 k2 k3 k4 => hQ .normal _ _ E' w' a' h2 k1 k2 k3 k4

theorem seqW_ok {f g : WStep} {c d : Code} (hf : WOk P G N0 w0 I0 f c) (hg : WOk P G N0 w0 I0 g d) : WOk P G N0 w0 I0 (fun T S K => f T S (seqK g K)) (.seq c d) := by
  intro T S K E a w Q h hS hT hQ
  refine wp_seq (hf T S _ E a w _ h hS hT fun x T' S' E' w' a' hk k1 k2 k3 k4 => ?_)
  cases x with
  | normal => exact hg T' S' K E' a' w' Q hk k1 k3 fun x T2 S2 E2 w2 a2 l0 l1 l2 l3 l4 => hQ x T2 S2 E2 w2 a2 l0 l1 (k2.trans l2) l3 (l4.trans k4)
  | exit id => exact hQ _ _ _ E' w' a' hk k1 k2 k3 k4
  | goto l => exact hQ _ _ _ E' w' a' hk k1 k2 k3 k4
  | ret => exact hQ _ _ _ E' w' a' hk k1 k2 k3 k4

theorem blockW_ok {f : WStep} {c : Code} {id : Nat} (hf : WOk P G N0 w0 I0 f c) : WOk P G N0 w0 I0 (fun T S K => f T S (blockK id K)) (.block id c) := by
  intro T S K E a w Q h hS hT hQ
  refine wp_block (hf T S _ E a w _ h hS hT fun x T' S' E' w' a' hk k1 k2 k3 k4 => ?_)
  cases x with
  | normal => exact hQ _ _ _ E' w' a' hk k1 k2 k3 k4
  | goto l => exact hQ _ _ _ E' w' a' hk k1 k2 k3 k4
  | ret => exact hQ _ _ _ E' w' a' hk k1 k2 k3 k4
  | exit id' =>
    simp only [blockK] at hk
    show (if id' = id then Q .normal a' w' else Q (.exit id') a' w')
    split at hk
    · rename_i e; rw [if_pos e]; exact hQ _ _ _ E' w' a' hk k1 k2 k3 k4
    · rename_i e; rw [if_neg e]; exact hQ _ _ _ E' w' a' hk k1 k2 k3 k4

theorem rep_mint {E E' : Env} {w : World} {sz0 sz L : Nat} {v : Value} (h : Rep E w (.sl sz0 [] .nil) v) (hk : E'.K L 0 (.slice none 0 0)) : Rep E' w (.sl sz [] (.tok L)) v := by
  cases h with | sl _ _ _ A cap u hcap hmax hA hsz hcl ho hr h1 =>
  simp only [OwnOk] at ho
  injection ho with h1' h2 h3
  subst h1'; subst h3
  exact .sl sz [] (.tok L) none 0 u (by simp) (by simp [maxLen]) (.inl rfl) (by simp) (by simp) hk (by simp) h1

theorem mintW_ok {E0 : Env} {w1 w : World} {tm : Array Value} : ∀ {l : List (Nat × TypeId)} {T : List AV} {S : St} {E : Env} {K : List AV → St → Prop}, mintW P l T S K → SR P G N0 w0 I0 S E w → Env.Le E0 E w1 w → TR E w T tm →
    ∃ T' S' E', K T' S' ∧ S'.boxes = S.boxes ∧ SR P G N0 w0 I0 S' E' w ∧ Env.Le E0 E' w1 w ∧ TR E' w T' tm
  | [], T, S, E, K, h, hS, hL, hT => ⟨T, S, E, h, rfl, hS, hL, hT⟩
  | (t, e) :: l, T, S, E, K, h, hS, hL, hT => by
    simp only [mintW] at h
    split at h
    · rename_i sz0 es sz ht hs
      split at h
      case h_2 => exact mintW_ok h hS hL hT
      obtain ⟨hS', hL'⟩ := hS.mint (e := e) hs
      obtain ⟨T', S', E', h1, h2, h3⟩ := mintW_ok (tm := tm) h hS' (hL.trans hL') (by
        refine ⟨by simp [hT.1], fun i c v hi hv => ?_⟩
        rw [List.getElem?_set] at hi
        by_cases hj : t = i
        · subst hj
          have hlt := (List.getElem?_eq_some_iff.1 ht).1
          rw [if_pos rfl, if_pos hlt] at hi
          injection hi with hi
          subst hi
          exact rep_mint (hT.2 t _ v ht hv) (.inr ⟨rfl, rfl, rfl⟩)
        · rw [if_neg hj] at hi
          exact (hT.2 i c v hi hv).le hL')
      exact ⟨T', S', E', h1, h2, h3⟩
    · exact mintW_ok h hS hL hT

theorem lookup_zip {g : Nat → AV} : ∀ {slots : List Nat} {vs : List AV} {i : Nat} {v : AV}, slots.map g = vs → (slots.zip vs).lookup i = some v → v = g i
  | [], vs, i, v, h, hl => by simp at hl
  | a :: slots, [], i, v, h, hl => by simp at hl
  | a :: slots, x :: vs, i, v, h, hl => by
    simp only [List.map_cons, List.cons.injEq] at h
    simp only [List.zip_cons_cons, List.lookup_cons] at hl
    split at hl
    · rename_i e
      simp only [beq_iff_eq] at e
      injection hl with hl
      rw [← hl, ← h.1, e]
    · exact lookup_zip h.2 hl

theorem headT_rep {E : Env} {w : World} {T : List AV} {tm : Array Value} (hT : TR E w T tm) {len : Nat} {slots : List Nat} {vs : List AV} (hl : T.length = len) (h : slots.map (fun i => T.getD i (.tup [])) = vs) : TR E w (headT len slots vs) tm := by
  refine ⟨by simp only [headT, List.length_map, List.length_range]; rw [← hl]; exact hT.1, fun i c v hi hv => ?_⟩
  simp only [headT, List.getElem?_map] at hi
  cases hr : (List.range len)[i]? with
  | none => simp [hr] at hi
  | some j =>
    have hj : j = i := by
      have := List.getElem?_eq_some_iff.1 hr
      obtain ⟨h1, h2⟩ := this
      simpa using h2.symm
    subst hj
    rw [hr] at hi
    simp only [Option.map_some, Option.some.injEq] at hi
    cases hlk : (slots.zip vs).lookup j with
    | none => rw [hlk] at hi; simp at hi; subst hi; exact .junk v
    | some x =>
      rw [hlk] at hi
      simp only [Option.getD_some] at hi
      subst hi
      rw [lookup_zip h hlk]
      have := hT.get j
      have hv' : tm.getD j undef = v := by
        have hlt := (Array.getElem?_eq_some_iff.1 hv).1
        simp only [Array.getD, hlt, dif_pos]
        exact (Array.getElem?_eq_some_iff.1 hv).2
      rw [hv'] at this
      exact this

theorem landV_ok {n0 len : Nat} {an : Ann} {T : List AV} {S S0 : St} {p : an.α → Prop} {E0 E : Env} {w1 w : World} {tm : Array Value} (h : landV n0 len an T S p) (hS0 : SR P G N0 w0 I0 S0 E0 w1) (hn : S0.boxes.length = n0)
    (hS : SR P G N0 w0 I0 S E w) (hL : Env.Le E0 E w1 w) (hT : TR E w T tm) : ∃ y E', SR P G N0 w0 I0 (an.sS y) E' w ∧ Env.Le E0 E' w1 w ∧ TR E' w (headT len an.slots (an.vals y)) tm ∧ an.I y ∧ p y := by
  unfold landV at h
  split at h
  · rename_i hle
    obtain ⟨hle, hlen⟩ := hle
    obtain ⟨y, ⟨h1⟩, h2, h3, h4⟩ := h
    obtain ⟨S2, h2, ⟨h2'⟩⟩ := someK_imp h2
    subst h2'
    have hT1 := headT_rep hT hlen h1
    unfold cutTo at h2
    split at h2
    · injection h2 with h2
      rw [h2] at hS
      exact ⟨y, E, hS, hL, hT1, h3, h4⟩
    · split at h2
      · rename_i hok
        simp only [Bool.and_eq_true] at hok
        injection h2 with h2
        have hc := hS.cut hok.2
        rw [h2] at hc
        refine ⟨y, _, hc, ⟨hL.I, fun b x hb => ?_, hL.K, hL.Z⟩, ⟨hT1.1, fun i c v hi hv => (hT1.2 i c v hi hv).cut (pb2 (List.all_eq_true.1 hok.1 c (List.mem_of_getElem? hi)))⟩, h3, h4⟩
        have := (hS0.Blt b x hb).1
        have hlt : b < an.nb := by omega
        simp [cutB, hlt, hL.B b x hb]
      · cases h2
  · exact h.elim

theorem landW_ok {n0 l0 len : Nat} {an : Ann} {T : List AV} {S S0 : St} {p : an.α → Prop} {E0 E : Env} {w1 w : World} {tm : Array Value} (h : landW n0 l0 len an T S p) (hS0 : SR P G N0 w0 I0 S0 E0 w1) (hn : S0.boxes.length = n0) (hl0 : S0.live.length = l0)
    (hS : SR P G N0 w0 I0 S E w) (hL : Env.Le E0 E w1 w) (hT : TR E w T tm) : ∃ y E', SR P G N0 w0 I0 (an.sS y) E' w ∧ Env.Le E0 E' w1 w ∧ TR E' w (headT len an.slots (an.vals y)) tm ∧ an.I y ∧ p y := by
  unfold landW at h
  split at h
  · exact landV_ok h hS0 hn hS hL hT
  · rename_i n _
    split at h
    · rename_i hc
      refine landV_ok h hS0 hn (hS.cutK hc.2) ⟨hL.I, hL.B, fun t m v hk => ⟨hL.K t m v hk, ?_⟩, hL.Z⟩ ⟨by rw [List.length_map]; exact hT.1, fun i c v hi hv => ?_⟩
      · obtain ⟨m', e, hm, _⟩ := hS0.Klt t m v hk
        have := (List.getElem?_eq_some_iff.1 hm).1
        omega
      · rw [List.getElem?_map] at hi
        cases hT' : T[i]? with
        | none => simp [hT'] at hi
        | some a =>
          simp [hT'] at hi
          subst hi
          exact (hT.2 i a v hT' hv).stripT
    · exact h.elim

theorem SR.setBox {S : St} {E : Env} {w : World} (h : SR P G N0 w0 I0 S E w) {id : Nat} {cs cs' : List AV} (hb : S.boxes[id]? = some (some cs)) (hr : isRow cs = true) (hr' : isRow cs' = true) (hlen : cs'.length = cs.length)
    (hrep : ∀ (i : Nat) (c' : AV) (v : Value), cs'[i]? = some c' → (∀ c, cs[i]? = some c → Rep E w c v) → Rep E w c' v) : SR P G N0 w0 I0 { S with boxes := S.boxes.set id (some cs') } E w := by
  refine ⟨h.below, h.n0, h.Ilt, h.Iold, fun id' b hB => ?_, h.Binj, fun id' cs1 hi => ?_, h.glob, fun id' hi => ?_, h.Klt, h.Kblk, h.live⟩
  · obtain ⟨a1, a2, a3, a4⟩ := h.Blt id' b hB
    refine ⟨by simpa using a1, a2, a3, fun o ho => ?_⟩
    by_cases e : id = id'
    · subst e; exact absurd (a4 o ho) (Frz.not_row hb hr)
    · exact (a4 o ho).set e
  · simp only [List.getElem?_set] at hi
    split at hi
    · rename_i e
      subst e
      split at hi
      · simp only [Option.some.injEq] at hi
        subst hi
        obtain ⟨blk, h1, hx⟩ := h.box id cs hb
        obtain ⟨arr, ty, h2, h3, h4⟩ := hx.cells hr
        refine ⟨blk, h1, .row arr ty hr' h2 (by omega) fun i c v hc hv => ⟨hrep i c v hc fun c0 hc0 => (h4 i c0 v hc0 hv).1, ?_⟩⟩
        have hlt : i < cs.length := by
          have := (List.getElem?_eq_some_iff.1 hc).1
          omega
        exact (h4 i cs[i] v (List.getElem?_eq_getElem hlt) hv).2
      · cases hi
    · exact h.box id' cs1 hi
  · simp only [List.getElem?_set] at hi
    split at hi
    · split at hi <;> simp at hi
    · exact h.hole id' hi

theorem mintBW_ok {E0 : Env} {w1 w : World} {tm : Array Value} {T : List AV} : ∀ {l : List (Nat × TypeId)} {S : St} {E : Env} {K : St → Prop}, mintBW P l S K → SR P G N0 w0 I0 S E w → Env.Le E0 E w1 w → TR E w T tm →
    ∃ S' E', K S' ∧ S'.boxes.length = S.boxes.length ∧ SR P G N0 w0 I0 S' E' w ∧ Env.Le E0 E' w1 w ∧ TR E' w T tm
  | [], S, E, K, h, hS, hL, hT => ⟨S, E, h, rfl, hS, hL, hT⟩
  | (b, e) :: l, S, E, K, h, hS, hL, hT => by
    simp only [mintBW] at h
    split at h
    · rename_i cs sz hb hs
      split at h
      case h_2 => exact mintBW_ok h hS hL hT
      rename_i sz0 hcs
      split at h
      case isFalse => exact mintBW_ok h hS hL hT
      rename_i hrow
      obtain ⟨hS', hL'⟩ := hS.mint (e := e) hs
      have hS2 := hS'.setBox (id := b % 1000) (cs := cs) (cs' := cs.set (b / 1000) (.sl sz [] (.tok S.live.length))) hb hrow.1 hrow.2 (by simp) (fun i c' v hc hv => by
        rw [List.getElem?_set] at hc
        split at hc
        · rename_i e1
          subst e1
          split at hc
          case isFalse => cases hc
          injection hc with hc; subst hc
          exact rep_mint (hv _ hcs) (.inr ⟨rfl, rfl, rfl⟩)
        · exact hv _ hc)
      obtain ⟨S', E', h1, h2, h3⟩ := mintBW_ok (tm := tm) (T := T) h hS2 (hL.trans hL') (hT.le hL')
      exact ⟨S', E', h1, by simpa using h2, h3⟩
    · exact mintBW_ok h hS hL hT

theorem giveTW_ok {E0 : Env} {w1 w : World} {tm : Array Value} : ∀ {l : List Nat} {T : List AV} {S : St} {E : Env} {K : List AV → St → Prop}, giveTW l T S K → SR P G N0 w0 I0 S E w → Env.Le E0 E w1 w → TR E w T tm →
    ∃ T' S' E', K T' S' ∧ SR P G N0 w0 I0 S' E' w ∧ Env.Le E0 E' w1 w ∧ TR E' w T' tm
  | [], T, S, E, K, h, hS, hL, hT => ⟨T, S, E, h, hS, hL, hT⟩
  | t :: l, T, S, E, K, h, hS, hL, hT => by
    simp only [giveTW] at h
    split at h
    · rename_i v hv
      obtain ⟨u, S1, h1, h2⟩ := giveW_imp h
      have hlt := (List.getElem?_eq_some_iff.1 hv).1
      have hlt' : t < tm.size := hT.1 ▸ hlt
      have hr := hT.2 t v tm[t] hv (Array.getElem?_eq_getElem hlt')
      obtain ⟨E1, k1, k2, k3⟩ := giveA_ok hS h1 hr
      refine giveTW_ok h2 k1 (hL.trans k2) ⟨by rw [List.length_set]; exact hT.1, fun i c x hi hx => ?_⟩
      rw [List.getElem?_set] at hi
      by_cases e : t = i
      · subst e
        rw [if_pos rfl, if_pos hlt] at hi
        injection hi with hi; subst hi
        rw [Array.getElem?_eq_getElem hlt'] at hx
        injection hx with hx; subst hx
        exact k3
      · rw [if_neg e] at hi
        exact (hT.2 i c x hi hx).le k2
    · exact h.elim
theorem landM_ok {n0 l0 len : Nat} {an : Ann} {T : List AV} {S S0 : St} {p : an.α → Prop} {E0 E : Env} {w1 w : World} {tm : Array Value} (h : landM P n0 l0 len an T S p) (hS0 : SR P G N0 w0 I0 S0 E0 w1) (hn : S0.boxes.length = n0) (hl0 : S0.live.length = l0)
    (hS : SR P G N0 w0 I0 S E w) (hL : Env.Le E0 E w1 w) (hT : TR E w T tm) : ∃ y E', SR P G N0 w0 I0 (an.sS y) E' w ∧ Env.Le E0 E' w1 w ∧ TR E' w (headT len an.slots (an.vals y)) tm ∧ an.I y ∧ p y := by
  obtain ⟨T1, S1, E1, k1, _, k3, k4, k5⟩ := mintW_ok h hS hL hT
  obtain ⟨S2, E2, m1, _, m3, m4, m5⟩ := mintBW_ok k1 k3 k4 k5
  obtain ⟨T3, S3, E3, q1, q3, q4, q5⟩ := giveTW_ok m1 m3 m4 m5
  exact landW_ok q1 hS0 hn hl0 q3 q4 q5

theorem unrollW_ok {f : WStep} {c : Code} (hf : WOk P G N0 w0 I0 f c) (n : Nat) : WOk P G N0 w0 I0 (unrollW f n) (.loop c) := by
  have key : ∀ n (T : List AV) (S : St) (K : WK) (E : Env) (a : Act) (w : World) (Q : Exit → Act → World → Prop), unrollW f n T S K → SR P G N0 w0 I0 S E w → TR E w T a.tmps →
      (∀ x T' S' E' w' a', K x T' S' → SR P G N0 w0 I0 S' E' w' → Env.Le E E' w w' → TR E' w' T' a'.tmps → a'.defers = a.defers → Q x.to a' w') → Code.rounds P c Q n a w := by
    intro n
    induction n with
    | zero => exact fun T S K E a w Q h hS hT hQ => h.elim
    | succ n ih =>
      intro T S K E a w Q h hS hT hQ
      refine hf T S _ E a w _ h hS hT fun x T2 S2 E2 w2 a2 hk m1 m2 m3 m4 => ?_
      cases x with
      | normal => exact ih T2 S2 K E2 a2 w2 Q hk m1 m3 fun x T3 S3 E3 w3 a3 l0 l1 l2 l3 l4 => hQ x T3 S3 E3 w3 a3 l0 l1 (m2.trans l2) l3 (l4.trans m4)
      | exit id => exact hQ _ _ _ E2 w2 a2 hk m1 m2 m3 m4
      | goto l => exact hQ _ _ _ E2 w2 a2 hk m1 m2 m3 m4
      | ret => exact hQ _ _ _ E2 w2 a2 hk m1 m2 m3 m4
  exact fun T S K E a w Q h hS hT hQ => wp_loop_rounds n (key n T S K E a w Q h hS hT hQ)
/-- at the head of a loop -/
def LoopKey (P : Program) (c : Code) (Q : Exit → Act → World → Prop) (a : Act) (w : World) : Prop :=
  ∀ b k cs, ∃ e a' w', Q e a' w' ∧ Arrives P (lone (b.at a (.code c :: .inLoop c :: k)) cs w) b k cs e a' w'
theorem key_wp {c : Code} {Q : Exit → Act → World → Prop} {a : Act} {w : World} (h : LoopKey P c Q a w) : (Code.loop c).wp P Q a w := fun b k cs => by
  obtain ⟨e, a', w', hq, harr⟩ := h b k cs
  exact ⟨e, a', w', hq, .of_steps (.one step_loop) harr⟩
theorem key_step {c : Code} {Q : Exit → Act → World → Prop} {a : Act} {w : World} (h : c.wp P (Exit.then (LoopKey P c Q) Q) a w) : LoopKey P c Q a w := fun b k cs => by
  obtain ⟨e, a₁, w₁, hq, harr⟩ := h b (.inLoop c :: k) cs
  cases e with
  | normal =>
    obtain ⟨e₂, a₂, w₂, hq₂, harr₂⟩ := hq b k cs
    exact ⟨e₂, a₂, w₂, hq₂, .of_steps (Steps.trans harr (.one step_inLoop)) harr₂⟩
  | exit id => exact ⟨_, a₁, w₁, hq, .pass (x := .inLoop c) rfl (fun _ _ => .inl (by simp)) harr⟩
  | goto l => exact ⟨_, a₁, w₁, hq, .pass (x := .inLoop c) rfl (fun _ _ => .inl (by simp)) harr⟩
  | ret => exact ⟨_, a₁, w₁, hq, .pass (x := .inLoop c) rfl (fun _ _ => .inl (by simp)) harr⟩
  | panic ch => exact ⟨_, a₁, w₁, hq, .pass (x := .inLoop c) rfl (fun _ _ => .inl (by simp)) harr⟩
  | outgrown => exact ⟨_, a₁, w₁, hq, .pass (x := .inLoop c) rfl (fun _ _ => .inl (by simp)) harr⟩
def KeyOk (P : Program) (G : Glob) (N0 : Nat) (w0 : World) (I0 : Nat → Nat → Prop) (f : WStep) (c : Code) : Prop :=
  ∀ (T : List AV) (S : St) (K : WK) (E : Env) (a : Act) (w : World) (Q : Exit → Act → World → Prop), f T S K → SR P G N0 w0 I0 S E w → TR E w T a.tmps →
    (∀ x T' S' E' w' a', K x T' S' → SR P G N0 w0 I0 S' E' w' → Env.Le E E' w w' → TR E' w' T' a'.tmps → a'.defers = a.defers → Q x.to a' w') → LoopKey P c Q a w
theorem annW_ok {an : Ann} {f : WStep} {c : Code} (hf : WOk P G N0 w0 I0 f c) : KeyOk P G N0 w0 I0 (annW P idMk an f) c := by
  intro T S K E a w Q h hS hT hQ
  simp only [annW] at h
  split at h
  · obtain ⟨h0, hr⟩ := h
    obtain ⟨y, E2, l1, l2, l3, l4, _⟩ := landM_ok h0 hS rfl rfl hS (Env.Le.refl E w) hT
    have key : ∀ n, ∀ (a1 : Act) (w1 : World), (∃ y E', an.μ y = n ∧ an.I y ∧ SR P G N0 w0 I0 (an.sS y) E' w1 ∧ Env.Le E E' w w1 ∧ TR E' w1 (headT T.length an.slots (an.vals y)) a1.tmps ∧ a1.defers = a.defers) → LoopKey P c Q a1 w1 := by
      intro n
      induction n using Nat.strongRecOn with
      | _ n ih =>
        rintro a1 w1 ⟨y, E', hn, hI, hS', hL', hT', hd'⟩
        refine key_step (hf _ _ _ E' a1 w1 _ (forkT_imp (hr y hI)) hS' hT' fun x T2 S2 E2 w2 a2 hk m1 m2 m3 m4 => ?_)
        cases x with
        | normal =>
          obtain ⟨z, E3, q1, q2, q3, q4, q5⟩ := landW_ok hk hS rfl rfl m1 (hL'.trans m2) m3
          exact ih (an.μ z) (by omega) a2 w2 ⟨z, E3, rfl, q4, q1, q2, q3, m4.trans hd'⟩
        | exit id => exact hQ _ _ _ E2 w2 a2 hk m1 (hL'.trans m2) m3 (m4.trans hd')
        | goto l => exact hQ _ _ _ E2 w2 a2 hk m1 (hL'.trans m2) m3 (m4.trans hd')
        | ret => exact hQ _ _ _ E2 w2 a2 hk m1 (hL'.trans m2) m3 (m4.trans hd')
    exact key (an.μ y) a w ⟨y, E2, rfl, l4, l1, l2, l3, rfl⟩
  · rename_i r _
    obtain ⟨h0, hr⟩ := h
    obtain ⟨y, E2, l1, l2, l3, l4, l5⟩ := landM_ok h0 hS rfl rfl hS (Env.Le.refl E w) hT
    have key : ∀ n, ∀ (a1 : Act) (w1 : World), (∃ y E', an.μ y = n ∧ (an.I y ∧ r T y) ∧ SR P G N0 w0 I0 (an.sS y) E' w1 ∧ Env.Le E E' w w1 ∧ TR E' w1 (headT T.length an.slots (an.vals y)) a1.tmps ∧ a1.defers = a.defers) → LoopKey P c Q a1 w1 := by
      intro n
      induction n using Nat.strongRecOn with
      | _ n ih =>
        rintro a1 w1 ⟨y, E', hn, hI, hS', hL', hT', hd'⟩
        refine key_step (hf _ _ _ E' a1 w1 _ (forkT_imp (hr y hI.1 hI.2)) hS' hT' fun x T2 S2 E2 w2 a2 hk m1 m2 m3 m4 => ?_)
        cases x with
        | normal =>
          obtain ⟨z, E3, q1, q2, q3, q4, q5⟩ := landW_ok hk hS rfl rfl m1 (hL'.trans m2) m3
          exact ih (an.μ z) (by have := q5.2; omega) a2 w2 ⟨z, E3, rfl, ⟨q4, q5.1⟩, q1, q2, q3, m4.trans hd'⟩
        | exit id => exact hQ _ _ _ E2 w2 a2 hk m1 (hL'.trans m2) m3 (m4.trans hd')
        | goto l => exact hQ _ _ _ E2 w2 a2 hk m1 (hL'.trans m2) m3 (m4.trans hd')
        | ret => exact hQ _ _ _ E2 w2 a2 hk m1 (hL'.trans m2) m3 (m4.trans hd')
    exact key (an.μ y) a w ⟨y, E2, rfl, ⟨l4, l5⟩, l1, l2, l3, rfl⟩
theorem peelW_ok {f g : WStep} {c : Code} (hf : WOk P G N0 w0 I0 f c) (hg : KeyOk P G N0 w0 I0 g c) : ∀ n, KeyOk P G N0 w0 I0 (peelW f g n) c
  | 0 => hg
  | n + 1 => fun T S K E a w Q h hS hT hQ => by
    refine key_step (hf T S _ E a w _ h hS hT fun x T2 S2 E2 w2 a2 hk m1 m2 m3 m4 => ?_)
    cases x with
    | normal => exact peelW_ok hf hg n T2 S2 K E2 a2 w2 Q hk m1 m3 fun x T3 S3 E3 w3 a3 l0 l1 l2 l3 l4 => hQ x T3 S3 E3 w3 a3 l0 l1 (m2.trans l2) l3 (l4.trans m4)
    | exit id => exact hQ _ _ _ E2 w2 a2 hk m1 m2 m3 m4
    | goto l => exact hQ _ _ _ E2 w2 a2 hk m1 m2 m3 m4
    | ret => exact hQ _ _ _ E2 w2 a2 hk m1 m2 m3 m4
theorem loopW_ok {an : Option Ann} {f : WStep} {c : Code} (hf : WOk P G N0 w0 I0 f c) : WOk P G N0 w0 I0 (loopW P idMk an f) (.loop c) := by
  intro T S K E a w Q h hS hT hQ
  cases an with
  | none => exact h.elim
  | some an =>
    simp only [loopW] at h
    split at h
    case h_1 => exact unrollW_ok hf _ T S K E a w Q h hS hT hQ
    exact key_wp (peelW_ok hf (annW_ok hf) _ T S K E a w Q h hS hT hQ)

theorem cutW_ok {an : Option Ann} {f g : WStep} {c d : Code} (hf : WOk P G N0 w0 I0 f c) (hg : WOk P G N0 w0 I0 g d) : WOk P G N0 w0 I0 (cutW P idMk an f g) (.seq c d) := by
  intro T S K E a w Q h hS hT hQ
  unfold cutW at h
  split at h
  · exact seqW_ok hf hg T S K E a w Q h hS hT hQ
  · rename_i an
    obtain ⟨h0, hr⟩ := h
    refine wp_seq (hf T S _ E a w _ h0 hS hT fun e T' S' E' w' a' hk k1 k2 k3 k4 => ?_)
    cases e with
    | normal =>
      obtain ⟨z, E2, q1, q2, q3, q4, q5⟩ := landM_ok hk hS rfl rfl k1 k2 k3
      exact hg _ _ K E2 a' w' Q (forkT_imp (hr z q4 q5)) q1 q3 fun e T2 S2 E3 w2 a2 l0 l1 l2 l3 l4 => hQ e T2 S2 E3 w2 a2 l0 l1 (q2.trans l2) l3 (l4.trans k4)
    | exit id => exact hQ _ _ _ E' w' a' hk k1 k2 k3 k4
    | goto l => exact hQ _ _ _ E' w' a' hk k1 k2 k3 k4
    | ret => exact hQ _ _ _ E' w' a' hk k1 k2 k3 k4

/-- a scope: every jump lowers a number -/
theorem wp_scope_inv {b : Code} {Q : Exit → Act → World → Prop} {a : Act} {w : World} (J : Nat → Nat → Act → World → Prop)
    (h0 : b.wp P (fun e a' w' => match e with
      | .goto l => match findLabel b l with
        | some _ => ∃ m, J l m a' w'
        | none => Q (.goto l) a' w'
      | e => Q e a' w') a w)
    (hr : ∀ l m a w rest, findLabel b l = some rest → J l m a w → rest.wp P (fun e a' w' => match e with
      | .goto l => match findLabel b l with
        | some _ => ∃ m', m' < m ∧ J l m' a' w'
        | none => Q (.goto l) a' w'
      | e => Q e a' w') a w) : (Code.scope b).wp P Q a w := by
  intro fr k cs
  have key : ∀ (m : Nat) l a w rest, findLabel b l = some rest → J l m a w → ∃ e a' w', Q e a' w' ∧ Arrives P (lone (fr.at a (.code rest :: .inScope b :: k)) cs w) fr k cs e a' w' := by
    intro m
    induction m using Nat.strongRecOn with
    | _ m ih =>
      intro l a w rest hl hJ
      obtain ⟨e, a₁, w₁, hq, harr⟩ := hr l m a w rest hl hJ fr (.inScope b :: k) cs
      cases e with
      | normal => exact ⟨.normal, a₁, w₁, hq, Steps.trans harr (.one step_inScope)⟩
      | exit id => exact ⟨.exit id, a₁, w₁, hq, fun k' hk => harr k' (by simp [exitTo, hk])⟩
      | goto l' =>
        simp only at hq
        split at hq
        · rename_i rest' hr'
          obtain ⟨m', hlt, hJ'⟩ := hq
          obtain ⟨e₂, a₂, w₂, hq₂, harr₂⟩ := ih m' hlt l' a₁ w₁ rest' hr' hJ'
          exact ⟨e₂, a₂, w₂, hq₂, .of_steps (harr _ (by simp [gotoIn, hr'])) harr₂⟩
        · rename_i hr'
          exact ⟨.goto l', a₁, w₁, hq, fun k' hk => harr k' (by simp [gotoIn, hr', hk])⟩
      | ret => exact ⟨_, a₁, w₁, hq, harr⟩
      | panic ch => exact ⟨_, a₁, w₁, hq, harr⟩
      | outgrown => exact ⟨_, a₁, w₁, hq, harr⟩
  have fin : ∃ e a' w', Q e a' w' ∧ Arrives P (lone (fr.at a (.code b :: .inScope b :: k)) cs w) fr k cs e a' w' := by
    obtain ⟨e, a₁, w₁, hq, harr⟩ := h0 fr (.inScope b :: k) cs
    cases e with
    | normal => exact ⟨.normal, a₁, w₁, hq, Steps.trans harr (.one step_inScope)⟩
    | exit id => exact ⟨.exit id, a₁, w₁, hq, fun k' hk => harr k' (by simp [exitTo, hk])⟩
    | goto l' =>
      simp only at hq
      split at hq
      · rename_i rest' hr'
        obtain ⟨m', hJ'⟩ := hq
        obtain ⟨e₂, a₂, w₂, hq₂, harr₂⟩ := key m' l' a₁ w₁ rest' hr' hJ'
        exact ⟨e₂, a₂, w₂, hq₂, .of_steps (harr _ (by simp [gotoIn, hr'])) harr₂⟩
      · rename_i hr'
        exact ⟨.goto l', a₁, w₁, hq, fun k' hk => harr k' (by simp [gotoIn, hr', hk])⟩
    | ret => exact ⟨_, a₁, w₁, hq, harr⟩
    | panic ch => exact ⟨_, a₁, w₁, hq, harr⟩
    | outgrown => exact ⟨_, a₁, w₁, hq, harr⟩
  obtain ⟨e, a', w', hq, harr⟩ := fin
  exact ⟨e, a', w', hq, .of_steps (.one step_scope) harr⟩

theorem mem_labelsOf : ∀ {b : Code} {l : Nat} {rest : Code}, findLabel b l = some rest → l ∈ labelsOf b := by
  intro b
  induction b with
  | seq a b iha ihb =>
    intro l rest h
    simp only [findLabel] at h
    simp only [labelsOf, List.mem_append]
    cases ha : findLabel a l with
    | some r => exact .inl (iha ha)
    | none => rw [ha] at h; exact .inr (ihb h)
  | label l' =>
    intro l rest h
    simp only [findLabel] at h
    split at h
    · rename_i e; simp at e; simp [labelsOf, e]
    · cases h
  | _ => intro l rest h; simp [findLabel] at h

/-- what holds at a label that lies in code -/
def atL (P : Program) : Code → Nat → (Exit → Act → World → Prop) → Act → World → Prop
  | .seq x y, l, Q, a, w => match findLabel x l with
    | some _ => atL P x l (Exit.then (y.wp P Q) Q) a w
    | none => atL P y l Q a w
  | .label l', l, Q, a, w => if l' == l then Q .normal a w else True
  | _, _, _, _, _ => True

theorem exit_then_mono {K K' : Act → World → Prop} {Q Q' : Exit → Act → World → Prop} (hk : ∀ a w, K a w → K' a w) (h : ∀ e a w, Q e a w → Q' e a w) : ∀ e a w, Exit.then K Q e a w → Exit.then K' Q' e a w := by
  intro e a w hq
  cases e <;> first | exact hk _ _ hq | exact h _ _ _ hq

theorem atL_mono : ∀ {c : Code} {l : Nat} {Q Q' : Exit → Act → World → Prop} {a : Act} {w : World}, (∀ e a w, Q e a w → Q' e a w) → atL P c l Q a w → atL P c l Q' a w := by
  intro c
  induction c with
  | seq x y ihx ihy =>
    intro l Q Q' a w hq h
    simp only [atL] at h ⊢
    split
    · rename_i r hr
      rw [hr] at h
      exact ihx (exit_then_mono (fun _ _ h => wp_mono h hq) hq) h
    · rename_i hr
      rw [hr] at h
      exact ihy hq h
  | label l' =>
    intro l Q Q' a w hq h
    simp only [atL] at h ⊢
    split
    · rename_i e; rw [if_pos e] at h; exact hq _ _ _ h
    · trivial
  | _ => intros; simp only [atL]

theorem atL_rest : ∀ {c : Code} {l : Nat} {rest : Code} {Q : Exit → Act → World → Prop} {a : Act} {w : World}, findLabel c l = some rest → atL P c l Q a w → rest.wp P Q a w := by
  intro c
  induction c with
  | seq x y ihx ihy =>
    intro l rest Q a w hl h
    simp only [findLabel] at hl
    simp only [atL] at h
    split at hl
    · rename_i r hr
      simp only [Option.some.injEq] at hl
      subst hl
      rw [hr] at h
      exact wp_seq (ihx hr h)
    · rename_i hr
      rw [hr] at h
      exact ihy hl h
  | label l' =>
    intro l rest Q a w hl h
    simp only [findLabel] at hl
    simp only [atL] at h
    split at hl
    · rename_i e
      simp only [Option.some.injEq] at hl
      subst hl
      rw [if_pos e] at h
      exact wp_skip h
    · cases hl
  | _ => intro l rest Q a w hl; simp [findLabel] at hl

theorem atL_none : ∀ {c : Code} {l : Nat} {Q : Exit → Act → World → Prop} {a : Act} {w : World}, findLabel c l = none → atL P c l Q a w := by
  intro c
  induction c with
  | seq x y ihx ihy =>
    intro l Q a w hl
    simp only [findLabel] at hl
    simp only [atL]
    split at hl
    · cases hl
    · rename_i hr
      rw [hr]
      exact ihy hl
  | label l' =>
    intro l Q a w hl
    simp only [findLabel] at hl
    simp only [atL]
    split
    · rename_i e; rw [if_pos e] at hl; cases hl
    · trivial
  | _ => intros; simp only [atL]

theorem labelsOf_find : ∀ {b : Code} {l : Nat}, l ∈ labelsOf b → ∃ rest, findLabel b l = some rest := by
  intro b
  induction b with
  | seq a b iha ihb =>
    intro l h
    simp only [labelsOf, List.mem_append] at h
    simp only [findLabel]
    cases ha : findLabel a l with
    | some r => exact ⟨_, rfl⟩
    | none =>
      rcases h with h | h
      · obtain ⟨r, hr⟩ := iha h; rw [ha] at hr; cases hr
      · exact ihb h
  | label l' =>
    intro l h
    simp only [labelsOf, List.mem_singleton] at h
    exact ⟨.skip, by simp [findLabel, h]⟩
  | _ => intro l h; simp [labelsOf] at h

/-- what is shown of code whose labels may be come to from ahead -/
def WOkL (P : Program) (G : Glob) (N0 : Nat) (w0 : World) (I0 : Nat → Nat → Prop) (f : Ld → WStep) (c : Code) : Prop :=
  (labelsOf c).Nodup → ∀ (ld : Ld) (T : List AV) (S : St) (K : WK) (E : Env) (a : Act) (w : World) (Q : Exit → Act → World → Prop), f ld T S K → SR P G N0 w0 I0 S E w → TR E w T a.tmps →
    (∀ x T' S' E' w' a', K x T' S' → SR P G N0 w0 I0 S' E' w' → Env.Le E E' w w' → TR E' w' T' a'.tmps → a'.defers = a.defers → Q x.to a' w') →
    (∀ l p, ld l = some p → ∀ T' S' E' w' a', p T' S' → SR P G N0 w0 I0 S' E' w' → Env.Le E E' w w' → TR E' w' T' a'.tmps → a'.defers = a.defers → atL P c l Q a' w') → c.wp P Q a w
/-- and of what stands behind a label -/
def FOkL (P : Program) (G : Glob) (N0 : Nat) (w0 : World) (I0 : Nat → Nat → Prop) (k : Ld → Nat → Option WStep) (c : Code) : Prop :=
  (labelsOf c).Nodup → ∀ (ld : Ld) (l : Nat) (g : WStep), k ld l = some g → ∀ (T : List AV) (S : St) (K : WK) (E : Env) (a : Act) (w : World) (Q : Exit → Act → World → Prop), g T S K → SR P G N0 w0 I0 S E w → TR E w T a.tmps →
    (∀ x T' S' E' w' a', K x T' S' → SR P G N0 w0 I0 S' E' w' → Env.Le E E' w w' → TR E' w' T' a'.tmps → a'.defers = a.defers → Q x.to a' w') →
    (∀ l p, ld l = some p → ∀ T' S' E' w' a', p T' S' → SR P G N0 w0 I0 S' E' w' → Env.Le E E' w w' → TR E' w' T' a'.tmps → a'.defers = a.defers → atL P c l Q a' w') → atL P c l Q a w

theorem WOkL.of {f : Ld → WStep} {c : Code} (h : ∀ ld, WOk P G N0 w0 I0 (f ld) c) : WOkL P G N0 w0 I0 f c := fun _ ld T S K E a w Q hf hS hT hQ _ => h ld T S K E a w Q hf hS hT hQ
theorem WOkL.no {f : Ld → WStep} {c : Code} (h : WOkL P G N0 w0 I0 f c) (hn : (labelsOf c).Nodup) : WOk P G N0 w0 I0 (f noLd) c := fun T S K E a w Q hf hS hT hQ => h hn noLd T S K E a w Q hf hS hT hQ fun l p hl => by cases hl

theorem scopeW_ok {b : Code} {A : Nat → Option Ann} {k : Ld → Nat → Option WStep} (hk : FOkL P G N0 w0 I0 k b) {f : Ld → WStep} (hf : WOkL P G N0 w0 I0 f b) :
    WOk P G N0 w0 I0 (scopeW P idMk A (labelsOf b) f k) (.scope b) := by
  intro T S K E a w Q h hS hT hQ
  unfold scopeW at h
  split at h
  case isFalse => exact h.elim
  case isTrue hnd =>
  obtain ⟨h0, hr⟩ := h
  -- J l m: the label's state, its number m
  let J : Nat → Nat → Act → World → Prop := fun l m a' w' => ∃ an y E'', A l = some an ∧ an.μ y = m ∧ an.I y ∧ SR P G N0 w0 I0 (an.sS y) E'' w' ∧ Env.Le E E'' w w' ∧ TR E'' w' (headT T.length an.slots (an.vals y)) a'.tmps ∧ a'.defers = a.defers
  let QJ : (Nat → Prop) → Exit → Act → World → Prop := fun p e a' w' => match e with
      | .goto l => match findLabel b l with
        | some _ => ∃ m, p m ∧ J l m a' w'
        | none => Q (.goto l) a' w'
      | e => Q e a' w'
  have QJmono : ∀ {p q : Nat → Prop}, (∀ m, p m → q m) → ∀ e a' w', QJ p e a' w' → QJ q e a' w' := by
    intro p q hpq e a' w' hq
    cases e with
    | goto l =>
      simp only [QJ] at hq ⊢
      split at hq
      · obtain ⟨m, hm, hj⟩ := hq; exact ⟨m, hpq m hm, hj⟩
      · exact hq
    | _ => exact hq
  have land : ∀ {p : Nat → Prop} {an : Ann} {l : Nat} {T' : List AV} {S' : St} {E' : Env} {w' : World} {a' : Act}, A l = some an → landM P S.boxes.length S.live.length T.length an T' S' (fun y => p (an.μ y)) → SR P G N0 w0 I0 S' E' w' → Env.Le E E' w w' → TR E' w' T' a'.tmps → a'.defers = a.defers → ∃ m, p m ∧ J l m a' w' := by
    intro p an l T' S' E' w' a' hA hj k1 k2 k3 k4
    obtain ⟨y, E2, q1, q2, q3, q4, q5⟩ := landM_ok hj hS rfl rfl k1 k2 k3
    exact ⟨an.μ y, q5, an, y, E2, hA, rfl, q4, q1, q2, q3, k4⟩
  have post : ∀ {p : Nat → Prop} {x : AExit} {T' : List AV} {S' : St} {E' : Env} {w' : World} {a' : Act}, jumpK P S.boxes.length S.live.length T.length A (labelsOf b) p K x T' S' → SR P G N0 w0 I0 S' E' w' → Env.Le E E' w w' → TR E' w' T' a'.tmps → a'.defers = a.defers → QJ p x.to a' w' := by
    intro p x T' S' E' w' a' hj k1 k2 k3 k4
    cases x with
    | normal => exact hQ _ _ _ E' w' a' hj k1 k2 k3 k4
    | exit id => exact hQ _ _ _ E' w' a' hj k1 k2 k3 k4
    | ret => exact hQ _ _ _ E' w' a' hj k1 k2 k3 k4
    | goto l =>
      simp only [AExit.to, QJ]
      simp only [jumpK] at hj
      split at hj
      · rename_i hm
        obtain ⟨rest, hrest⟩ := labelsOf_find hm
        rw [hrest]
        split at hj
        · exact hj.elim
        · rename_i an hA
          exact land hA hj k1 k2 k3 k4
      · rename_i hm
        cases hfl : findLabel b l with
        | some r => exact absurd (mem_labelsOf hfl) hm
        | none => exact hQ _ _ _ E' w' a' hj k1 k2 k3 k4
  have key : ∀ (m : Nat) (l : Nat) (a1 : Act) (w1 : World), l ∈ labelsOf b → J l m a1 w1 → atL P b l (QJ (· < m)) a1 w1 := by
    intro m
    induction m using Nat.strongRecOn with
    | _ m ih =>
      rintro l a1 w1 hml ⟨an, y, E1, hA, hm, hI, hS1, hL1, hT1, hd1⟩
      have hml' := allL_mem hr l hml
      simp only [hA] at hml'
      have hml2 := forkT_imp (hml' y hI)
      split at hml2
      · rename_i g hg
        refine hk hnd _ l g hg _ _ _ E1 a1 w1 _ hml2 hS1 hT1 (fun x T' S' E' w' a' hj k1 k2 k3 k4 => ?_) (fun l2 p2 hp T' S' E' w' a' hj k1 k2 k3 k4 => ?_)
        · have := post hj k1 (hL1.trans k2) k3 (k4.trans hd1)
          exact QJmono (fun m' hm' => by omega) _ _ _ this
        · simp only [ldOf, Option.map_eq_some_iff] at hp
          obtain ⟨an2, hA2, rfl⟩ := hp
          by_cases hl2 : l2 ∈ labelsOf b
          · obtain ⟨m2, hlt, hJ2⟩ := land (p := fun m => m < an.μ y) hA2 hj k1 (hL1.trans k2) k3 (k4.trans hd1)
            exact atL_mono (QJmono fun m' hm' => by omega) (ih m2 (by omega) l2 a' w' hl2 hJ2)
          · refine atL_none ?_
            cases hfl : findLabel b l2 with
            | some r => exact absurd (mem_labelsOf hfl) hl2
            | none => rfl
      · exact hml2.elim
  refine wp_scope_inv J ?_ ?_
  · have : b.wp P (QJ fun _ => True) a w := by
      refine hf hnd _ T S _ E a w _ h0 hS hT (fun x T' S' E' w' a' hj k1 k2 k3 k4 => post hj k1 k2 k3 k4) (fun l2 p2 hp T' S' E' w' a' hj k1 k2 k3 k4 => ?_)
      simp only [ldOf, Option.map_eq_some_iff] at hp
      obtain ⟨an2, hA2, rfl⟩ := hp
      by_cases hl2 : l2 ∈ labelsOf b
      · obtain ⟨m2, _, hJ2⟩ := land (p := fun _ => True) hA2 hj k1 k2 k3 k4
        exact atL_mono (QJmono fun m' _ => trivial) (key m2 l2 a' w' hl2 hJ2)
      · refine atL_none ?_
        cases hfl : findLabel b l2 with
        | some r => exact absurd (mem_labelsOf hfl) hl2
        | none => rfl
    refine wp_mono this fun e a' w' hq => ?_
    cases e with
    | goto l =>
      simp only [QJ] at hq
      split at hq
      · rename_i r hr'
        obtain ⟨m, _, hj⟩ := hq
        simp only [hr']
        exact ⟨m, hj⟩
      · rename_i hr'
        simp only [hr']
        exact hq
    | _ => exact hq
  · intro l m a1 w1 rest hl hJ
    refine wp_mono (atL_rest hl (key m l a1 w1 (mem_labelsOf hl) hJ)) fun e a' w' hq => ?_
    cases e with
    | goto l' =>
      simp only [QJ] at hq
      split at hq
      · rename_i r hr'
        obtain ⟨m', hlt, hj⟩ := hq
        simp only [hr']
        exact ⟨m', hlt, hj⟩
      · rename_i hr'
        simp only [hr']
        exact hq
    | _ => exact hq

theorem skipW_ok (x : AExit) (c : Code) (h : ∀ (Q : Exit → Act → World → Prop) (a : Act) (w : World), Q x.to a w → c.wp P Q a w) : WOk P G N0 w0 I0 (fun T S K => K x T S) c := by
  intro T S K E a w Q hh hS hT hQ
  exact h Q a w (hQ x T S E w a hh hS (Env.Le.refl _ _) hT rfl)

theorem nodup_code {c : Code} (h : ∀ x y, c ≠ .seq x y) (h2 : ∀ l, c ≠ .label l) : (labelsOf c).Nodup := by
  cases c <;> first | exact List.nodup_nil | exact absurd rfl (h _ _) | exact absurd rfl (h2 _)

/-- every label of the inner code stands once, or a scope looks at it -/
theorem codeW_ok {X : Shapes} {R : Callee} {C : CCallee} (hm : P.follows .mixedOrders = true) (hR : CalleeOk P G R) (hC : ICalleeOk P G (lowC C)) (A : Anns) (m : List Bool) : ∀ (c : Code), WOkL P G N0 w0 I0 (codeW P idMk G X R C A m c) c ∧ FOkL P G N0 w0 I0 (fromW P idMk G X R C A m c) c ∧
    (∀ ld l, fromW P idMk G X R C A m c ld l = none ↔ findLabel c l = none) ∧ WOk P G N0 w0 I0 (codeW P idMk G X R C A m c noLd) c := by
  intro c
  induction c with
  | skip => exact ⟨.of fun ld => by rw [codeW]; exact skipW_ok .normal _ fun Q a w h => wp_skip h, (fun _ ld l g h => by simp [fromW] at h), (fun ld l => by simp [fromW, findLabel]), by rw [codeW]; exact skipW_ok .normal _ fun Q a w h => wp_skip h⟩
  | region id ops draw => exact ⟨.of fun ld => by rw [codeW]; exact regionW_ok hm hR hC, (fun _ ld l g h => by simp [fromW] at h), (fun ld l => by simp [fromW, findLabel]), by rw [codeW]; exact regionW_ok hm hR hC⟩
  | seq x y ihx ihy =>
    obtain ⟨hx1, hx2, hx3, hx4⟩ := ihx
    obtain ⟨hy1, hy2, hy3, hy4⟩ := ihy
    refine ⟨?_, ?_, ?_, ?_⟩
    · intro hnd ld T S K E a w Q h hS hT hQ hL
      simp only [labelsOf, List.nodup_append] at hnd
      rw [codeW] at h
      have hLx : ∀ l p, ld l = some p → ∀ T' S' E' w' a', p T' S' → SR P G N0 w0 I0 S' E' w' → Env.Le E E' w w' → TR E' w' T' a'.tmps → a'.defers = a.defers → atL P x l (Exit.then (y.wp P Q) Q) a' w' := by
        intro l p hp T' S' E' w' a' hj k1 k2 k3 k4
        have := hL l p hp T' S' E' w' a' hj k1 k2 k3 k4
        simp only [atL] at this
        split at this
        · exact this
        · rename_i hr; exact atL_none hr
      have hLy : ∀ l p, ld l = some p → ∀ T' S' E' w' a', p T' S' → SR P G N0 w0 I0 S' E' w' → Env.Le E E' w w' → TR E' w' T' a'.tmps → a'.defers = a.defers → atL P y l Q a' w' := by
        intro l p hp T' S' E' w' a' hj k1 k2 k3 k4
        have := hL l p hp T' S' E' w' a' hj k1 k2 k3 k4
        simp only [atL] at this
        split at this
        · rename_i r hr
          refine atL_none ?_
          cases hfl : findLabel y l with
          | some r2 => exact absurd rfl (hnd.2.2 l (mem_labelsOf hr) l (mem_labelsOf hfl))
          | none => rfl
        · exact this
      unfold cutW at h
      split at h
      case h_2 an _ =>
        obtain ⟨h0, hr⟩ := h
        refine wp_seq (hx1 hnd.1 ld T S _ E a w _ h0 hS hT (fun e T' S' E' w' a' hk k1 k2 k3 k4 => ?_) hLx)
        cases e with
        | normal =>
          obtain ⟨z, E2, q1, q2, q3, q4, q5⟩ := landM_ok hk hS rfl rfl k1 k2 k3
          exact hy1 hnd.2.1 ld _ _ K E2 a' w' Q (forkT_imp (hr z q4 q5)) q1 q3 (fun e T2 S2 E3 w2 a2 l0 l1 l2 l3 l4 => hQ e T2 S2 E3 w2 a2 l0 l1 (q2.trans l2) l3 (l4.trans k4)) (fun l p hp T2 S2 E3 w2 a2 l0 l1 l2 l3 l4 => hLy l p hp T2 S2 E3 w2 a2 l0 l1 (q2.trans l2) l3 (l4.trans k4))
        | exit id => exact hQ _ _ _ E' w' a' hk k1 k2 k3 k4
        | goto l => exact hQ _ _ _ E' w' a' hk k1 k2 k3 k4
        | ret => exact hQ _ _ _ E' w' a' hk k1 k2 k3 k4
      refine wp_seq (hx1 hnd.1 ld T S _ E a w _ h hS hT (fun e T' S' E' w' a' hk k1 k2 k3 k4 => ?_) (fun l p hp T' S' E' w' a' hj k1 k2 k3 k4 => ?_))
      · cases e with
        | normal =>
          refine hy1 hnd.2.1 ld T' S' K E' a' w' Q hk k1 k3 (fun e T2 S2 E2 w2 a2 l0 l1 l2 l3 l4 => hQ e T2 S2 E2 w2 a2 l0 l1 (k2.trans l2) l3 (l4.trans k4)) (fun l p hp T2 S2 E2 w2 a2 l0 l1 l2 l3 l4 => ?_)
          have := hL l p hp T2 S2 E2 w2 a2 l0 l1 (k2.trans l2) l3 (l4.trans k4)
          simp only [atL] at this
          split at this
          · rename_i r hr
            refine atL_none ?_
            cases hfl : findLabel y l with
            | some r2 => exact absurd rfl (hnd.2.2 l (mem_labelsOf hr) l (mem_labelsOf hfl))
            | none => rfl
          · exact this
        | exit id => exact hQ _ _ _ E' w' a' hk k1 k2 k3 k4
        | goto l => exact hQ _ _ _ E' w' a' hk k1 k2 k3 k4
        | ret => exact hQ _ _ _ E' w' a' hk k1 k2 k3 k4
      · have := hL l p hp T' S' E' w' a' hj k1 k2 k3 k4
        simp only [atL] at this
        split at this
        · exact this
        · rename_i hr; exact atL_none hr
    · intro hnd ld l g hg T S K E a w Q h hS hT hQ hL
      simp only [labelsOf, List.nodup_append] at hnd
      have hLx : ∀ l p, ld l = some p → ∀ T' S' E' w' a', p T' S' → SR P G N0 w0 I0 S' E' w' → Env.Le E E' w w' → TR E' w' T' a'.tmps → a'.defers = a.defers → atL P x l (Exit.then (y.wp P Q) Q) a' w' := by
        intro l p hp T' S' E' w' a' hj k1 k2 k3 k4
        have := hL l p hp T' S' E' w' a' hj k1 k2 k3 k4
        simp only [atL] at this
        split at this
        · exact this
        · rename_i hr; exact atL_none hr
      have hLy : ∀ l p, ld l = some p → ∀ T' S' E' w' a', p T' S' → SR P G N0 w0 I0 S' E' w' → Env.Le E E' w w' → TR E' w' T' a'.tmps → a'.defers = a.defers → atL P y l Q a' w' := by
        intro l p hp T' S' E' w' a' hj k1 k2 k3 k4
        have := hL l p hp T' S' E' w' a' hj k1 k2 k3 k4
        simp only [atL] at this
        split at this
        · rename_i r hr
          refine atL_none ?_
          cases hfl : findLabel y l with
          | some r2 => exact absurd rfl (hnd.2.2 l (mem_labelsOf hr) l (mem_labelsOf hfl))
          | none => rfl
        · exact this
      simp only [fromW] at hg
      simp only [atL]
      split at hg
      · rename_i gx hgx
        simp only [Option.some.injEq] at hg
        subst hg
        cases hfl : findLabel x l with
        | none => rw [(hx3 ld l).2 hfl] at hgx; cases hgx
        | some r =>
          simp only
          refine hx2 hnd.1 ld l gx hgx T S _ E a w _ h hS hT (fun e T' S' E' w' a' hk k1 k2 k3 k4 => ?_) hLx
          cases e with
          | normal => exact hy1 hnd.2.1 ld T' S' K E' a' w' Q hk k1 k3 (fun e T2 S2 E2 w2 a2 l0 l1 l2 l3 l4 => hQ e T2 S2 E2 w2 a2 l0 l1 (k2.trans l2) l3 (l4.trans k4)) (fun l p hp T2 S2 E2 w2 a2 l0 l1 l2 l3 l4 => hLy l p hp T2 S2 E2 w2 a2 l0 l1 (k2.trans l2) l3 (l4.trans k4))
          | exit id => exact hQ _ _ _ E' w' a' hk k1 k2 k3 k4
          | goto l => exact hQ _ _ _ E' w' a' hk k1 k2 k3 k4
          | ret => exact hQ _ _ _ E' w' a' hk k1 k2 k3 k4
      · rename_i hgx
        rw [(hx3 ld l).1 hgx]
        simp only
        exact hy2 hnd.2.1 ld l g hg T S K E a w Q h hS hT hQ hLy
    · intro ld l
      simp only [fromW, findLabel]
      cases hfl : findLabel x l with
      | none =>
        rw [(hx3 ld l).2 hfl]
        exact hy3 ld l
      | some r =>
        cases hgx : fromW P idMk G X R C A m x ld l with
        | none => rw [(hx3 ld l).1 hgx] at hfl; cases hfl
        | some g => simp
    · rw [codeW]; exact cutW_ok hx4 hy4
  | cond c x y ihx ihy =>
    have key : ∀ ld, WOk P G N0 w0 I0 (codeW P idMk G X R C A m (.cond c x y) ld) (.cond c x y) := by
      intro ld
      rw [codeW]
      intro T S K E a w Q h hS hT hQ
      have hc := evA_rep hS.glob hT c
      split at h
      · rename_i he
        rw [he] at hc
        exact wp_cond (rep_bool hc) (by simpa using ihx.2.2.2 _ _ _ E a w Q h hS hT hQ)
      · rename_i he
        rw [he] at hc
        exact wp_cond (rep_bool hc) (by simpa using ihy.2.2.2 _ _ _ E a w Q h hS hT hQ)
      · exact h.elim
    exact ⟨.of key, (fun _ ld l g h => by simp [fromW] at h), (fun ld l => by simp [fromW, findLabel]), key _⟩
  | block id b ih =>
    have key : ∀ ld, WOk P G N0 w0 I0 (codeW P idMk G X R C A m (.block id b) ld) (.block id b) := fun ld => by rw [codeW]; exact blockW_ok ih.2.2.2
    exact ⟨.of key, (fun _ ld l g h => by simp [fromW] at h), (fun ld l => by simp [fromW, findLabel]), key _⟩
  | loop b ih =>
    have key : ∀ ld, WOk P G N0 w0 I0 (codeW P idMk G X R C A m (.loop b) ld) (.loop b) := fun ld => by rw [codeW]; exact loopW_ok ih.2.2.2
    exact ⟨.of key, (fun _ ld l g h => by simp [fromW] at h), (fun ld l => by simp [fromW, findLabel]), key _⟩
  | rangeFunc f ps as b _ _ =>
    have key : ∀ ld, WOk P G N0 w0 I0 (codeW P idMk G X R C A m (.rangeFunc f ps as b) ld) (.rangeFunc f ps as b) := fun ld => by rw [codeW]; intro T S K E a w Q h; exact h.elim
    exact ⟨.of key, (fun _ ld l g h => by simp [fromW] at h), (fun ld l => by simp [fromW, findLabel]), key _⟩
  | exit id =>
    have key : ∀ ld, WOk P G N0 w0 I0 (codeW P idMk G X R C A m (.exit id) ld) (.exit id) := fun ld => by rw [codeW]; exact skipW_ok (.exit id) _ fun Q a w h => wp_exit h
    exact ⟨.of key, (fun _ ld l g h => by simp [fromW] at h), (fun ld l => by simp [fromW, findLabel]), key _⟩
  | scope b ih =>
    have key : ∀ ld, WOk P G N0 w0 I0 (codeW P idMk G X R C A m (.scope b) ld) (.scope b) := fun ld => by rw [codeW]; exact scopeW_ok ih.2.1 ih.1
    exact ⟨.of key, (fun _ ld l g h => by simp [fromW] at h), (fun ld l => by simp [fromW, findLabel]), key _⟩
  | label l' =>
    refine ⟨?_, ?_, fun ld l => ?_, by rw [codeW]; exact skipW_ok .normal _ fun Q a w h => wp_label h⟩
    · intro _ ld T S K E a w Q h hS hT hQ hL
      rw [codeW] at h
      split at h
      · rename_i p hp
        have := hL l' p hp T S E w a h hS (Env.Le.refl _ _) hT rfl
        simp only [atL, beq_self_eq_true, if_true] at this
        exact wp_label this
      · exact wp_label (hQ .normal T S E w a h hS (Env.Le.refl _ _) hT rfl)
    · intro _ ld l g hg T S K E a w Q h hS hT hQ hL
      simp only [fromW] at hg
      split at hg
      · rename_i he
        simp only [Option.some.injEq] at hg
        subst hg
        simp only [atL, he, if_true]
        exact hQ .normal T S E w a h hS (Env.Le.refl _ _) hT rfl
      · cases hg
    · simp only [fromW, findLabel]
      split <;> simp
  | goto l' =>
    have key : ∀ ld, WOk P G N0 w0 I0 (codeW P idMk G X R C A m (.goto l') ld) (.goto l') := fun ld => by rw [codeW]; exact skipW_ok (.goto l') _ fun Q a w h => wp_goto h
    exact ⟨.of key, (fun _ ld l g h => by simp [fromW] at h), (fun ld l => by simp [fromW, findLabel]), key _⟩
  | ret =>
    have key : ∀ ld, WOk P G N0 w0 I0 (codeW P idMk G X R C A m .ret ld) .ret := fun ld => by rw [codeW]; exact skipW_ok .ret _ fun Q a w h => wp_ret h
    exact ⟨.of key, (fun _ ld l g h => by simp [fromW] at h), (fun ld l => by simp [fromW, findLabel]), key _⟩
  | refuse s =>
    have key : ∀ ld, WOk P G N0 w0 I0 (codeW P idMk G X R C A m (.refuse s) ld) (.refuse s) := fun ld => by rw [codeW]; intro T S K E a w Q h; exact h.elim
    exact ⟨.of key, (fun _ ld l g h => by simp [fromW] at h), (fun ld l => by simp [fromW, findLabel]), key _⟩
end
end Go.Abs

namespace Go.Abs
open Go.RowKit

def fnW (P : Program) (mk : Mk) (G : Glob) (X : Shapes) (R : Callee) (C : CCallee) (A : Anns) (m : List Bool) (f : FuncId) (args : List AV) (S : St) (K : AV → St → Prop) : Prop :=
  match P.funcs[f]? with
  | none => False
  | some fn =>
    match fn.body with
    | none => False
    | some c =>
      if fn.name == "runtime.NumGoroutine" then False else
      codeW P mk G X R C A m c noLd (args ++ List.replicate (fn.ntmps - args.length) (.tup [])) S fun x T S' =>
        match x with
        | .normal | .ret => someK (resultsA P T S' fn.results.toList) fun vs => K (packA vs) S'
        | _ => False

def normW (live : List (Nat × TypeId)) (r0 : AV) (K : AV → List (Nat × TypeId) → Prop) : Prop :=
  match r0 with
  | .sl sz es (.tok t) => someK live[t]? fun p => p.1 = es.length ∧ K (.sl sz es (.tok 0)) [p]
  | .tup (.sl sz es (.tok t) :: vs) =>
    if (vs.map AV.strip1).all AV.closed1 then someK live[t]? fun p => p.1 = es.length ∧ K (.tup (.sl sz es (.tok 0) :: vs.map AV.strip1)) [p] else False
  | r0 => someK (normA live r0) fun x => K x.1 x.2
theorem normW_imp {live : List (Nat × TypeId)} {r0 : AV} {K : AV → List (Nat × TypeId) → Prop} (h : normW live r0 K) : ∃ r lv, normA live r0 = some (r, lv) ∧ K r lv := by
  unfold normW at h
  split at h
  · obtain ⟨p, h1, h2, h3⟩ := someK_imp h
    obtain ⟨n, e⟩ := p
    exact ⟨_, _, by simp only [normA, h1]; rw [if_pos h2], h3⟩
  · split at h
    · rename_i hc
      obtain ⟨p, h1, h2, h3⟩ := someK_imp h
      obtain ⟨n, e⟩ := p
      exact ⟨_, _, by simp only [normA, h1]; rw [if_pos hc, if_pos h2], h3⟩
    · exact h.elim
  · obtain ⟨x, h1, h2⟩ := someK_imp h
    exact ⟨x.1, x.2, h1, h2⟩

section
variable {P : Program} {G : Glob}

theorem fnW_ok {X : Shapes} {R : Callee} {C : CCallee} (hm : P.follows .mixedOrders = true) (hR : CalleeOk P G R) (hC : ICalleeOk P G (lowC C)) {A : Anns} {m : List Bool} {f : FuncId} {args : List AV} {S : St} {K : AV → St → Prop} (h : fnW P idMk G X R C A m f args S K) :
    goodFn P f ∧ ∀ (N0 : Nat) (w0 : World) (I0 : Nat → Nat → Prop) (E : Env) (w : World) (vs : Array Value), SR P G N0 w0 I0 S E w → vs.size = args.length → (∀ (i : Nat) (c : AV) (v : Value), args[i]? = some c → vs[i]? = some v → Rep E w c v) →
      Calls P f vs w fun e w' => ∃ v E' r S', e = .returned v ∧ K r S' ∧ SR P G N0 w0 I0 S' E' w' ∧ Env.Le E E' w w' ∧ Rep E' w' r v := by
  unfold fnW at h
  split at h
  · exact h.elim
  · rename_i fn hf
    split at h
    · exact h.elim
    · rename_i c hb
      split at h
      · exact h.elim
      · rename_i hname
        refine ⟨⟨fn, hf, by rw [hb]; rfl, by simpa using hname⟩, fun N0 w0 I0 E w vs hS hn hv => ?_⟩
        have hT0 : TR E w (args ++ List.replicate (fn.ntmps - args.length) (.tup [])) (vs ++ Array.replicate (fn.ntmps - vs.size) undef) := by
          refine ⟨by simp [hn], fun i c v hi hv' => ?_⟩
          by_cases hlt : i < args.length
          · rw [List.getElem?_append_left hlt] at hi
            rw [Array.getElem?_append_left (by omega)] at hv'
            exact hv i c v hi hv'
          · rw [List.getElem?_append_right (by omega), List.getElem?_replicate] at hi
            rw [Array.getElem?_append_right (by omega), Array.getElem?_replicate] at hv'
            split at hi
            · split at hv'
              · simp at hi hv'; subst hi; subst hv'
                exact rep_undef
              · cases hv'
            · cases hi
        refine calls_of_wp hf hb ((codeW_ok (N0 := N0) (w0 := w0) (I0 := I0) hm hR hC A m c).2.2.2 _ _ _ E _ w _ h hS hT0 fun x T S1 E' w' a' hk h1 h2 h3 h4 => ?_)
        cases x with
        | exit id => exact hk.elim
        | goto l => exact hk.elim
        | normal =>
          obtain ⟨us, hus, hK⟩ := someK_imp hk
          obtain ⟨v, hv, hrep⟩ := results_run h1 h3 hus
          exact ⟨h4, v, hv, v, E', _, _, rfl, hK, h1, h2, hrep⟩
        | ret =>
          obtain ⟨us, hus, hK⟩ := someK_imp hk
          obtain ⟨v, hv, hrep⟩ := results_run h1 h3 hus
          exact ⟨h4, v, hv, v, E', _, _, rfl, hK, h1, h2, hrep⟩

/-- what is known of a function's calls -/
abbrev Spec := List AV → Option (AV × List (Nat × TypeId))
abbrev ISpec := List AV → St → Option (Prop × AV × St)
def tbl : List (FuncId × Spec) → Callee
  | [], _, _ => none
  | (g, s) :: l, f, args => if f = g then s args else tbl l f args
def itbl : List (FuncId × ISpec) → CCallee
  | [], _, _, _ => none
  | (g, s) :: l, f, args, S => if f = g then s args S else itbl l f args S

def SpecOk (P : Program) (G : Glob) (f : FuncId) (s : Spec) : Prop := CalleeOk P G fun g args => if g = f then s args else none
def ISpecOk (P : Program) (G : Glob) (f : FuncId) (s : ISpec) : Prop := ICalleeOk P G (lowC fun g args S => if g = f then s args S else none)

theorem tbl_nil : CalleeOk P G (tbl []) := fun _ _ _ _ h => by simp [tbl] at h
theorem tbl_cons {f : FuncId} {s : Spec} {l : List (FuncId × Spec)} (h : SpecOk P G f s) (hl : CalleeOk P G (tbl l)) : CalleeOk P G (tbl ((f, s) :: l)) := by
  intro g args r lv hr
  simp only [tbl] at hr
  split at hr
  · rename_i e
    exact h g args r lv (by simp only [e, if_true]; exact hr)
  · exact hl g args r lv hr
theorem itbl_nil : ICalleeOk P G (lowC (itbl [])) := fun _ _ _ _ _ h => by simp [itbl, lowC] at h
theorem itbl_cons {f : FuncId} {s : ISpec} {l : List (FuncId × ISpec)} (h : ISpecOk P G f s) (hl : ICalleeOk P G (lowC (itbl l))) : ICalleeOk P G (lowC (itbl ((f, s) :: l))) := by
  intro g args S r S' hr
  simp only [lowC, itbl] at hr
  by_cases e : g = f
  · exact h g args S r S' (by simp only [lowC, e, if_true] at hr ⊢; exact hr)
  · exact hl g args S r S' (by simp only [lowC, if_neg e] at hr ⊢; exact hr)

/-- what comes back -/
structure RetIs (r : AV) (lv : List (Nat × TypeId)) (s : AV × List (Nat × TypeId)) : Prop where
  eq : (r, lv) = s
structure RetOpen (ok : Bool) (r : AV) (S : St) (s : AV × St) : Prop where
  ok : ok = true
  eq : (r, S) = s

/-- what is to be shown of a function -/
def pureW (P : Program) (G : Glob) (X : Shapes) (R : Callee) (C : CCallee) (A : Anns) (m : List Bool) (f : FuncId) (args : List AV) (r : AV × List (Nat × TypeId)) : Prop :=
  fnW P idMk G X R C A m f args ⟨[], []⟩ fun r0 S => giveW S r0 fun r1 S1 => normW S1.live r1 fun r' lv => RetIs r' lv r

structure PureOk (P : Program) (G : Glob) (X : Shapes) (R : Callee) (C : CCallee) (A : Anns) (m : List Bool) (f : FuncId) (args : List AV) (r : AV × List (Nat × TypeId)) : Prop where
  out : pureW P G X R C A m f args r

theorem spec_of {X : Shapes} {R : Callee} {C : CCallee} (hm : P.follows .mixedOrders = true) (hR : CalleeOk P G R) (hC : ICalleeOk P G (lowC C)) {m : List Bool} {f : FuncId} {s : Spec}
    (h : ∀ args r, s args = some r → ∃ A, PureOk P G X R C A m f args r) : SpecOk P G f s := by
  intro g args r lv hr
  simp only at hr
  split at hr
  · rename_i e
    subst e
    obtain ⟨A, hA⟩ := h args _ hr
    obtain ⟨hg, hcall⟩ := fnW_ok hm hR hC hA.out
    refine fun E w vs hI hG hn hv hcl => .inl ⟨hg, ?_⟩
    have hS0 : SR P G w.heap.size w E.I ⟨[], []⟩ ⟨E.I, fun _ => none, fun _ _ _ => False⟩ w :=
      ⟨Below.refl _ _, Nat.le_refl _, hI, fun b o h _ => h, fun id b h => (nomatch h), fun id id' b h => (nomatch h), fun id cs h => (nomatch h), fun g e hg => ⟨(hG g e hg).1, rep_elt_rebase (hG g e hg).2.1 _ _, (hG g e hg).2.2⟩, fun id h => (nomatch h), fun t n v h => False.elim h, fun t n v h => False.elim h, fun t n e h => (nomatch h)⟩
    refine (hcall _ _ _ _ w vs hS0 hn fun i c v hi hv' => (hv i c v hi hv').rebase (hcl c (List.mem_of_getElem? hi)) _ _).mono fun e w' ⟨v, E', r0, S', he, hk, h1, h2, h3⟩ => ?_
    obtain ⟨r1, S1, hgv, hk⟩ := giveW_imp hk
    obtain ⟨E1, k1, k2, k3⟩ := giveA_ok h1 hgv h3
    obtain ⟨r', lv', hnorm, ⟨he'⟩⟩ := normW_imp hk
    injection he' with h5 h6
    subst h5; subst h6
    exact ⟨v, he, normA_res (E0 := E) k1 (fun b o hi => (k2.I b o (h2.I b o hi).1).1) hnorm k3⟩
  · cases hr

/-- less is told of a value: who may append to it -/
def all2 (p : AV → AV → Prop) : List AV → List AV → Prop
  | [], [] => True
  | a :: l, b :: m => p a b ∧ all2 p l m
  | _, _ => False
def Lax0 (a b : AV) : Prop :=
  match a, b with
  | .sl sz es _, .sl sz' es' o' => o' = .no ∧ es = es' ∧ (sz = sz' ∨ es' = [])
  | a, b => a = b
def Lax1 (a b : AV) : Prop :=
  match a, b with
  | .agg xs, .agg ys => all2 Lax0 xs ys
  | a, b => Lax0 a b
def Lax2 (a b : AV) : Prop :=
  match a, b with
  | .tup xs, .tup ys => all2 Lax1 xs ys
  | a, b => Lax1 a b
theorem all2_get {p : AV → AV → Prop} : ∀ {l m : List AV}, all2 p l m → l.length = m.length ∧ ∀ (i : Nat) (b : AV), m[i]? = some b → ∃ a, l[i]? = some a ∧ p a b
  | [], [], _ => ⟨rfl, fun i b h => by simp at h⟩
  | [], b :: m, h => h.elim
  | a :: l, [], h => h.elim
  | a :: l, b :: m, h => by
    obtain ⟨h1, h2⟩ := h
    obtain ⟨h3, h4⟩ := all2_get h2
    refine ⟨by simp [h3], fun i c hc => ?_⟩
    match i, hc with
    | 0, hc => simp at hc; subst hc; exact ⟨a, rfl, h1⟩
    | i + 1, hc => exact h4 i c (by simpa using hc)
theorem Lax0.rep {E : Env} {w : World} {a b : AV} {v : Value} (h : Lax0 a b) (hr : Rep E w a v) : Rep E w b v := by
  unfold Lax0 at h
  split at h
  · rename_i sz es o sz' es' o'
    obtain ⟨rfl, rfl, h3⟩ := h
    cases hr with | sl _ _ _ A cap u hcap hmax hA hsz hcl ho hr h1 =>
    by_cases he : es = []
    · subst he
      exact .sl sz' [] .no A cap u hcap hmax (.inl rfl) (by simp) (by simp) trivial (by simp) h1
    · obtain rfl := h3.resolve_right he
      exact .sl sz es .no A cap u hcap hmax hA hsz hcl trivial hr h1
  · subst h; exact hr
theorem Lax1.rep {E : Env} {w : World} {a b : AV} {v : Value} (h : Lax1 a b) (hr : Rep E w a v) : Rep E w b v := by
  unfold Lax1 at h
  split at h
  · rename_i xs ys
    obtain ⟨h1, h2⟩ := all2_get h
    cases hr with | agg _ vs hn h1' hc =>
    exact .agg _ vs (by omega) h1' fun i c v hi hv => by
      obtain ⟨a, ha, hl⟩ := h2 i c hi
      exact hl.rep (hc i a v ha hv)
  · exact Lax0.rep h hr
theorem Lax2.rep {E : Env} {w : World} {a b : AV} {v : Value} (h : Lax2 a b) (hr : Rep E w a v) : Rep E w b v := by
  unfold Lax2 at h
  split at h
  · rename_i xs ys
    obtain ⟨h1, h2⟩ := all2_get h
    cases hr with | tup _ vs hn hc =>
    exact .tup _ vs (by omega) fun i c v hi hv => by
      obtain ⟨a, ha, hl⟩ := h2 i c hi
      exact hl.rep (hc i a v ha hv)
  · exact Lax1.rep h hr
def AV.closed2 : AV → Bool
  | .tup vs => vs.all AV.closed1
  | v => v.closed1
theorem rep_closed2 {E : Env} {w : World} {a : AV} {v : Value} (hr : Rep E w a v) (hc : a.closed2 = true) (B : Nat → Option Nat) (K : Nat → Nat → Value → Prop) : Rep ⟨E.I, B, K⟩ w a v := by
  by_cases ha : ∃ vs, a = .tup vs
  · obtain ⟨vs, rfl⟩ := ha
    simp only [AV.closed2, List.all_eq_true] at hc
    cases hr with | tup _ us hn h =>
    exact .tup _ us hn fun i c v hi hv => (h i c v hi hv).rebase (hc c (List.mem_of_getElem? hi)) B K
  · have : a.closed1 = true := by
      cases a <;> simp_all [AV.closed2]
    exact hr.rebase this B K

structure RetLax (r : AV) (s : AV × List (Nat × TypeId)) : Prop where
  lax : Lax2 r s.1
  closed : s.1.closed2 = true
  none : s.2 = []
/-- what is to be shown of a function whose results are only looked at -/
def laxW (P : Program) (G : Glob) (X : Shapes) (R : Callee) (C : CCallee) (A : Anns) (m : List Bool) (f : FuncId) (args : List AV) (r : AV × List (Nat × TypeId)) : Prop :=
  fnW P idMk G X R C A m f args ⟨[], []⟩ fun r0 S => giveW S r0 fun r1 _ => RetLax r1 r
structure LaxOk (P : Program) (G : Glob) (X : Shapes) (R : Callee) (C : CCallee) (A : Anns) (m : List Bool) (f : FuncId) (args : List AV) (r : AV × List (Nat × TypeId)) : Prop where
  out : laxW P G X R C A m f args r

theorem lax_of {X : Shapes} {R : Callee} {C : CCallee} (hm : P.follows .mixedOrders = true) (hR : CalleeOk P G R) (hC : ICalleeOk P G (lowC C)) {m : List Bool} {f : FuncId} {s : Spec}
    (h : ∀ args r, s args = some r → ∃ A, LaxOk P G X R C A m f args r) : SpecOk P G f s := by
  intro g args r lv hr
  simp only at hr
  split at hr
  · rename_i e
    subst e
    obtain ⟨A, hA⟩ := h args _ hr
    obtain ⟨hg, hcall⟩ := fnW_ok hm hR hC hA.out
    refine fun E w vs hI hG hn hv hcl => .inl ⟨hg, ?_⟩
    have hS0 : SR P G w.heap.size w E.I ⟨[], []⟩ ⟨E.I, fun _ => none, fun _ _ _ => False⟩ w :=
      ⟨Below.refl _ _, Nat.le_refl _, hI, fun b o h _ => h, fun id b h => (nomatch h), fun id id' b h => (nomatch h), fun id cs h => (nomatch h), fun g e hg => ⟨(hG g e hg).1, rep_elt_rebase (hG g e hg).2.1 _ _, (hG g e hg).2.2⟩, fun id h => (nomatch h), fun t n v h => False.elim h, fun t n v h => False.elim h, fun t n e h => (nomatch h)⟩
    refine (hcall _ _ _ _ w vs hS0 hn fun i c v hi hv' => (hv i c v hi hv').rebase (hcl c (List.mem_of_getElem? hi)) _ _).mono fun e w' ⟨v, E', r0, S', he, hk, h1, h2, h3⟩ => ?_
    obtain ⟨r1, S1, hgv, hk⟩ := giveW_imp hk
    obtain ⟨E1, m1, m2, m3⟩ := giveA_ok h1 hgv h3
    obtain ⟨k1, k2, k3⟩ := hk
    simp only at k1 k2 k3
    subst k3
    refine ⟨v, he, E1.I, fun b o hi => (m2.I b o (h2.I b o hi).1).1, fun b o hi => ?_, m1.below, .inl ⟨rfl, fun B K => rep_closed2 (k1.rep m3) k2 B K⟩⟩
    rcases Nat.lt_or_ge b w.heap.size with hlt | hge
    · exact .inl (m1.Iold b o hi hlt)
    · exact .inr ⟨hge, m1.Ilt b o hi⟩
  · cases hr

/-- the same of a function that looks at its caller's variables -/
def openW (P : Program) (G : Glob) (X : Shapes) (R : Callee) (C : CCallee) (A : Anns) (m : List Bool) (f : FuncId) (args : List AV) (S : St) (r : AV × St) : Prop :=
  fnW P idMk G X R C A m f args S fun r0 S' => RetOpen (r0.p2 S.boxes.length && boxesOk S.boxes.length (S'.boxes.take S.boxes.length)) r0 { S' with boxes := S'.boxes.take S.boxes.length } r
structure OpenOk (P : Program) (G : Glob) (X : Shapes) (R : Callee) (C : CCallee) (A : Anns) (m : List Bool) (f : FuncId) (args : List AV) (S : St) (r : AV × St) : Prop where
  out : openW P G X R C A m f args S r
theorem ispec_of {X : Shapes} {R : Callee} {C : CCallee} (hm : P.follows .mixedOrders = true) (hR : CalleeOk P G R) (hC : ICalleeOk P G (lowC C)) {m : List Bool} {f : FuncId} {s : ISpec}
    (h : ∀ args S p r, s args S = some (p, r) → p → ∃ A, OpenOk P G X R C A m f args S r) : ISpecOk P G f s := by
  intro g args S r S' hr
  simp only [lowC] at hr
  by_cases e : g = f
  · subst e
    simp only [if_true] at hr
    split at hr
    case h_2 => cases hr
    case h_1 x hx =>
    split at hr
    case isFalse => cases hr
    case isTrue hp =>
    simp only [Option.some.injEq] at hr
    obtain ⟨A, hA⟩ := h args S x.1 x.2 hx hp
    rw [hr] at hA
    obtain ⟨hg, hcall⟩ := fnW_ok hm hR hC hA.out
    refine ⟨hg, fun N0 w0 I0 E w vs hS hn hv => (hcall N0 w0 I0 E w vs hS hn hv).mono fun e w' ⟨v, E', r0, S1, he, ⟨hok, hk⟩, h1, h2, h3⟩ => ?_⟩
    injection hk with h5 h6
    subst h5; subst h6
    simp only [Bool.and_eq_true] at hok
    refine ⟨v, ⟨E'.I, cutB S.boxes.length E'.B, E'.K⟩, he, h1.cut hok.2, ⟨h2.I, fun b x hb => ?_, h2.K, h2.Z⟩, h3.cut (pb2 hok.1)⟩
    have := (hS.Blt b x hb).1
    simp [cutB, this, h2.B b x hb]
  · simp only [if_neg e] at hr
    cases hr
end
end Go.Abs

namespace Go.Abs

theorem callIs_iff {x : Option (AV × List (Nat × TypeId))} {r : AV} {lv : List (Nat × TypeId)} : CallIs x r lv ↔ x = some (r, lv) := ⟨fun h => h.eq, fun h => ⟨h⟩⟩
theorem valsAre_iff {a b : List AV} : ValsAre a b ↔ a = b := ⟨fun h => h.eq, fun h => ⟨h⟩⟩
theorem stIs_iff {a b : St} : StIs a b ↔ a = b := ⟨fun h => h.eq, fun h => ⟨h⟩⟩
theorem retIs_iff {r : AV} {lv : List (Nat × TypeId)} {s : AV × List (Nat × TypeId)} : RetIs r lv s ↔ (r, lv) = s := ⟨fun h => h.eq, fun h => ⟨h⟩⟩

/-- bytes -/
abbrev bytesL (l : List UInt8) : List AV := l.map fun c => .int .u8 c.toNat
abbrev bytesA (l : List UInt8) : AV := .sl 1 (bytesL l) .no
theorem take_one {P : Program} {t : TypeId} (ha : aggA P t = some false) (hs : (sizeA P t).isSome = true) {es : List AV} {i : Nat} {e : AV} (he : es[i]? = some e) (h1 : e.cells = [e]) : takeAt P t es i 0 = some e := by
  obtain ⟨s, hs⟩ := Option.isSome_iff_exists.1 hs
  unfold takeAt
  simp only [he, ha, hs, takeA, h1, List.getElem?_cons_zero]
theorem take_none {P : Program} {t : TypeId} {es : List AV} {i j : Nat} (he : es[i]? = none) : takeAt P t es i j = none := by
  unfold takeAt
  simp only [he]
theorem take_u8_iff {P : Program} {t : TypeId} (ha : aggA P t = some false) (hs : (sizeA P t).isSome = true) {l : List UInt8} {i : Nat} {n : Int} : takeAt P t (bytesL l) i 0 = some (.int .u8 n) ↔ i < l.length ∧ ((l.getD i 0).toNat : Int) = n := by
  by_cases h : i < l.length
  · have he : (bytesL l)[i]? = some (.int .u8 l[i].toNat) := by simp [bytesL, h]
    rw [take_one ha hs he rfl]
    simp [h]
  · rw [take_none (by simpa [bytesL] using h)]
    simp [h]
theorem wrap64_in {n : Int} (h0 : -9223372036854775808 ≤ n) (h1 : n < 9223372036854775808) : IntKind.i64.wrap n = n := by
  simp only [IntKind.wrap, IntKind.bits, IntKind.signed]
  simp
  omega
theorem bytesL_length {l : List UInt8} : (bytesL l).length = l.length := by simp [bytesL]

/-- what is typed `true = b →` -/
theorem tt_imp {p : Prop} : (true = true → p) ↔ p := ⟨fun h => h rfl, fun h _ => h⟩
theorem tf_imp {p : Prop} : (true = false → p) ↔ True := ⟨fun _ => trivial, fun _ h => nomatch h⟩

theorem tw_next {p : UInt8 → Bool} : ∀ {l : List UInt8} {k : Nat}, k ≤ (l.takeWhile p).length → k < l.length → p (l.getD k 0) = true → k + 1 ≤ (l.takeWhile p).length
  | [], k, _, h, _ => by simp at h
  | c :: l, 0, _, _, hp => by simp at hp; simp [hp]
  | c :: l, k + 1, hk, h, hp => by
    rw [List.takeWhile_cons] at hk ⊢
    split at hk
    · rename_i hc
      rw [if_pos hc]
      simp only [List.length_cons] at hk h ⊢
      have := tw_next (p := p) (l := l) (k := k) (by omega) (by omega) (by simpa using hp)
      omega
    · simp at hk
theorem tw_stop {p : UInt8 → Bool} : ∀ {l : List UInt8} {k : Nat}, k ≤ (l.takeWhile p).length → (k < l.length → p (l.getD k 0) = false) → k = (l.takeWhile p).length
  | [], k, h, _ => by simp at h; simp [h]
  | c :: l, 0, _, hp => by have := hp (by simp); simp at this; simp [this]
  | c :: l, k + 1, hk, hp => by
    rw [List.takeWhile_cons] at hk ⊢
    split at hk
    · rename_i hc
      rw [if_pos hc]
      simp only [List.length_cons] at hk hp ⊢
      have := tw_stop (p := p) (l := l) (k := k) (by omega) (fun h => by simpa using hp (by omega))
      omega
    · simp at hk
end Go.Abs

namespace Go.Abs
open Go.RowKit

def unByte : AV → Option UInt8
  | .int .u8 n => if 0 ≤ n ∧ n < 256 then some (UInt8.ofNat n.toNat) else none
  | _ => none
def unBytes : List AV → Option (List UInt8)
  | [] => some []
  | a :: l =>
    match unByte a, unBytes l with
    | some b, some bs => some (b :: bs)
    | _, _ => none
theorem unByte_mk (b : UInt8) : unByte (.int .u8 b.toNat) = some b := by
  have h := b.toNat_lt
  simp only [unByte]
  rw [if_pos (by omega)]
  simp
theorem unByte_some {a : AV} {b : UInt8} (h : unByte a = some b) : a = .int .u8 b.toNat := by
  unfold unByte at h
  split at h
  · rename_i n
    split at h
    · rename_i hn
      simp only [Option.some.injEq] at h
      subst h
      have : (UInt8.ofNat n.toNat).toNat = n.toNat := by
        rw [UInt8.toNat_ofNat']
        exact Nat.mod_eq_of_lt (by omega)
      rw [this, Int.toNat_of_nonneg hn.1]
    · cases h
  · cases h
theorem unBytes_mk : ∀ bs : List UInt8, unBytes (bytesL bs) = some bs
  | [] => rfl
  | b :: bs => by
    have h1 := unByte_mk b
    have h2 := unBytes_mk bs
    simp only [bytesL, List.map_cons] at h2 ⊢
    simp only [unBytes, h1, h2]
theorem unBytes_some : ∀ {es : List AV} {bs : List UInt8}, unBytes es = some bs → es = bytesL bs
  | [], bs, h => by simp only [unBytes, Option.some.injEq] at h; subst h; rfl
  | a :: es, bs, h => by
    simp only [unBytes] at h
    split at h
    · rename_i b cs hb hcs
      simp only [Option.some.injEq] at h
      subst h
      rw [unByte_some hb, unBytes_some hcs]
      rfl
    · cases h

section
variable {P : Program} {G : Glob} {E : Env} {w w' : World}

theorem res_below (hb : Below w.heap.size w w') {r : AV} {v : Value} (h : ∀ B K, Rep ⟨E.I, B, K⟩ w' r v) : Res P E w w' r [] v :=
  ⟨E.I, fun _ _ h => h, fun _ _ h => .inl h, hb, .inl ⟨rfl, h⟩⟩
theorem res_same {r : AV} {v : Value} (h : ∀ B K, Rep ⟨E.I, B, K⟩ w r v) : Res P E w w r [] v := res_below (Below.refl _ _) h

theorem vs_one {vs : Array Value} (h : vs.size = 1) : ∃ a, vs = #[a] := by
  obtain ⟨l⟩ := vs
  match l, h with
  | [a], _ => exact ⟨a, rfl⟩
theorem vs_two {vs : Array Value} (h : vs.size = 2) : ∃ a b, vs = #[a, b] := by
  obtain ⟨l⟩ := vs
  match l, h with
  | [a, b], _ => exact ⟨a, b, rfl⟩

theorem rep_str {l : List UInt8} {v : Value} (h : Rep E w (.str l) v) : ∃ s, v = .string s ∧ s.data.toList = l := by
  cases h with | str _ s hs => exact ⟨s, rfl, hs⟩
theorem mk_str (s : ByteArray) : Rep E w (.str s.data.toList) (.string s) := .str _ s rfl

/-- a slice of bytes, in a world -/
theorem rep_bytes {sz : Nat} {bs : List UInt8} {o : Own} {v : Value} (h : Rep E w (.sl sz (bytesL bs) o) v) (hsz : sz = 1 ∨ bs = []) :
    ∃ A cap, v = .slice A bs.length cap ∧ bs.length ≤ cap ∧ (bs = [] ∨ ∃ b off, A = some ⟨b, off, none⟩ ∧ ∀ i, i < bs.length → w.cell? ⟨b, off + i, none⟩ = some (.int .u8 ((bs.map fun c => (c.toNat : Int)).getD i 0)) ∧ E.I b (off + i)) := by
  generalize hes : bytesL bs = es at h
  cases h with | sl _ _ _ A cap u hcap hmax hA hsz' hcl ho hr h1 =>
  have hlen : es.length = bs.length := by rw [← hes]; simp [bytesL]
  refine ⟨A, cap, by rw [hlen], by omega, ?_⟩
  by_cases hb : bs = []
  · exact .inl hb
  · have hsz1 : sz = 1 := hsz.resolve_right hb
    subst hsz1
    rcases hA with hA | ⟨b, off, hA, hc⟩
    · exact absurd (by rw [← hes] at hA; simpa [bytesL] using hA) hb
    · refine .inr ⟨b, off, hA, fun i hi => ?_⟩
      have he : es[i]? = some (.int .u8 bs[i].toNat) := by rw [← hes]; simp [bytesL, hi]
      obtain ⟨h2, h3⟩ := hc i _ 0 _ he rfl
      have h4 := hr i _ 0 _ he rfl
      simp only [Nat.mul_one, Nat.add_zero] at h2 h3
      refine ⟨?_, h2⟩
      rw [h3, rep_int h4]
      simp [hi]

def sIndexByteString : Spec := fun args => match args with
  | [.str l, .int .u8 c] => some (.int .i64 (Lib.indexByte l c.toNat.toUInt8), [])
  | _ => none
def sIndexByte : Spec := fun args => match args with
  | [.sl sz es _, .int .u8 c] => if sz = 1 ∧ es ≠ [] then (unBytes es).map fun l => (.int .i64 (Lib.indexByte l c.toNat.toUInt8), []) else none
  | _ => none
def sContains : Spec := fun args => match args with
  | [.str l, .str m] => if l.length < 4294967281 then some (.bool (Lib.contains l m), []) else none
  | _ => none

theorem extern_value {f : FuncId} {fn : Func} {e : Array Value → Sem Value} (hf : P.funcs[f]? = some fn) (hname : (fn.name == "runtime.NumGoroutine") = false) (hb : fn.body.isNone = true) (hn : Extern.findNext fn = none) (he : Extern.find fn = some e)
    {vs : Array Value} {w : World} {v : Value} (h : (e vs).run P w = .ok v w) : (callFunc f vs).run P w = .ok (.value v) w := by
  rw [run_callFunc_extern hf hname hb hn he, h]
  rfl

theorem o_indexByteString {f : FuncId} {fn : Func} (hf : P.funcs[f]? = some fn) (hname : (fn.name == "runtime.NumGoroutine") = false) (hb : fn.body.isNone = true) (hn : Extern.findNext fn = none) (he : Extern.find fn = some Extern.BytealgIndexByte.indexByte) :
    SpecOk P G f sIndexByteString := by
  intro g args r lv h E w vs hI hG hn' hv hcl
  simp only at h
  split at h
  · rename_i e
    subst e
    unfold sIndexByteString at h
    split at h
    · rename_i l c
      simp only [Option.some.injEq, Prod.mk.injEq] at h
      obtain ⟨rfl, rfl⟩ := h
      obtain ⟨a, b, rfl⟩ := vs_two hn'
      obtain ⟨s, rfl, hs⟩ := rep_str (hv 0 _ _ rfl rfl)
      obtain rfl := rep_int (hv 1 _ _ rfl rfl)
      refine .inr ⟨_, w, extern_value hf hname hb hn he (Lib.run_indexByteString s c w), _, rfl, res_same fun B K => ?_⟩
      rw [hs]
      exact .int _ _
    · cases h
  · cases h

theorem o_indexByte {f : FuncId} {fn : Func} (hf : P.funcs[f]? = some fn) (hname : (fn.name == "runtime.NumGoroutine") = false) (hb : fn.body.isNone = true) (hn : Extern.findNext fn = none) (he : Extern.find fn = some Extern.BytealgIndexByte.indexByte) :
    SpecOk P G f sIndexByte := by
  intro g args r lv h E w vs hI hG hn' hv hcl
  simp only at h
  split at h
  · rename_i e
    subst e
    unfold sIndexByte at h
    split at h
    · rename_i sz es o c
      split at h
      · rename_i hsz
        cases hu : unBytes es with
        | none => rw [hu] at h; cases h
        | some l =>
          rw [hu] at h
          simp only [Option.map_some, Option.some.injEq, Prod.mk.injEq] at h
          obtain ⟨rfl, rfl⟩ := h
          obtain rfl := unBytes_some hu
          obtain ⟨a, b, rfl⟩ := vs_two hn'
          obtain ⟨A, cap, rfl, hcap, hc⟩ := rep_bytes (hv 0 _ _ rfl rfl) (.inl hsz.1)
          obtain rfl := rep_int (hv 1 _ _ rfl rfl)
          have hbo : Lib.bytesOf (l.map fun c => (c.toNat : Int)) = l := by
            unfold Lib.bytesOf
            rw [List.map_map]
            conv => rhs; rw [← List.map_id l]
            refine List.map_congr_left fun x _ => ?_
            simp
          rcases hc with rfl | ⟨bk, off, rfl, hcells⟩
          · exact absurd rfl hsz.2
          · refine .inr ⟨_, w, extern_value hf hname hb hn he (Lib.run_indexByteSlice w bk off l.length cap (l.map fun c => (c.toNat : Int)) (by simp) (fun i hi => (hcells i hi).1) c), _, rfl, res_same fun B K => ?_⟩
            rw [hbo]
            exact .int _ _
      · cases h
    · cases h
  · cases h

theorem glob_int {g : Nat} {m : Int} (hG : GlobOk G E w) (h : G g = some (.int .i64 m)) : w.cell? ⟨g, 0, none⟩ = some (.int .i64 m) := by
  have := (hG g _ h).2.1
  generalize hv : Value.pointer (some ⟨g, 0, none⟩) = v at this
  cases this with | elt _ _ _ _ b off u hcl hA hr h1 =>
  injection hv with hv
  injection hv with hv
  injection hv with h2 h3
  subst h2
  obtain ⟨_, h4⟩ := hA 0 _ 0 _ rfl rfl
  have h5 := rep_int (hr 0 _ 0 _ rfl rfl)
  rw [← h5, ← h4]
  congr 2

theorem o_contains {f : FuncId} (hg : goodFn P f) {m : Int} {g0 : Nat} (hm : G g0 = some (.int .i64 m))
    (hc : ∀ (s sub : ByteArray) (m : Int) (w : World), s.size < 4294967281 → w.cell? ⟨g0, 0, none⟩ = some (.int .i64 m) →
      Calls P f #[.string s, .string sub] w fun e w' => e = .returned (.bool (Lib.contains s.data.toList sub.data.toList)) ∧ w' = w) : SpecOk P G f sContains := by
  intro g args r lv h E w vs hI hG hn' hv hcl
  simp only at h
  split at h
  · rename_i e
    subst e
    unfold sContains at h
    split at h
    · rename_i l k
      split at h
      · rename_i hl
        simp only [Option.some.injEq, Prod.mk.injEq] at h
        obtain ⟨rfl, rfl⟩ := h
        obtain ⟨a, b, rfl⟩ := vs_two hn'
        obtain ⟨s, rfl, hs⟩ := rep_str (hv 0 _ _ rfl rfl)
        obtain ⟨t, rfl, ht⟩ := rep_str (hv 1 _ _ rfl rfl)
        refine .inl ⟨hg, (hc s t m w (by have h9 : s.size = s.data.toList.length := by simp
                                         rw [h9, hs]; exact hl) (glob_int hG hm)).mono fun e w' ⟨he, hw⟩ => ?_⟩
        subst hw
        refine ⟨_, he, res_same fun B K => ?_⟩
        rw [hs, ht]
        exact .bool _
      · cases h
    · cases h
  · cases h

/-- a law that answers true -/
theorem law_calls {f : FuncId} {s : Spec} (hs : SpecOk P G f s) (hg : goodFn P f) {args : List AV} (h : s args = some (.bool true, [])) {vs : Array Value} (hI : ∀ b o, E.I b o → b < w.heap.size) (hG : GlobOk G E w) (hn : vs.size = args.length)
    (hv : ∀ (i : Nat) (c : AV) (v : Value), args[i]? = some c → vs[i]? = some v → Rep E w c v) (hcl : ∀ c ∈ args, c.closed1 = true) : Calls P f vs w fun e w' => e = .returned (.bool true) ∧ Below w.heap.size w w' := by
  have hc := hs f args (.bool true) [] (by simp only [if_true]; exact h) E w vs hI hG hn hv hcl
  rcases hc with ⟨_, hc⟩ | ⟨v, w', hrun, _⟩
  · refine hc.mono fun e w' ⟨v, he, I', _, _, hb, hr⟩ => ?_
    rcases hr with ⟨_, hr⟩ | ⟨n, e', hv', sz, xs, hlv, _⟩
    · have := rep_bool (hr (fun _ => none) (fun _ _ _ => False))
      subst this
      exact ⟨he, hb⟩
    · cases hlv
  · rw [run_callFunc hg] at hrun
    cases hrun
end
end Go.Abs

namespace Go.Abs
open Go.ChangeShapes Go.WideShapes Go.ChangeAt Go.RowKit Go.Deep Go.ChangeMaps

section
variable {H : Type} {enc : TypeId × Value → H} {P : Program}
theorem trodAll_stays (hl : laidOutB P = true) {W W' : World} (hb : Below W.heap.size W W') {sp : Nat → Bool} : ∀ (ts : List TypeId) (vs : List Value) (ds : List (DataW H)) (ps : List MemPlace),
    (∀ t ∈ ts, P.readableRec t = true ∧ t < P.types.size) → DataW.TrodAll enc P W 0 (fun _ => true) true ts vs ds ps → (∀ p ∈ ps, p.block < W.heap.size) → (∀ p ∈ ps, sp p.block = true) → DataW.TrodAll enc P W' 0 sp true ts vs ds ps
  | [], vs, ds, ps, _, h, _, _ => by
    obtain ⟨rfl, rfl, rfl⟩ := trodAll_nil h
    exact trodAll_mk0
  | t :: ts, vs, ds, ps, ht, h, hlt, hsp => by
    obtain ⟨v0, vs0, d0, ds0, p0, q0, rfl, rfl, rfl, h0, r0⟩ := trodAll_cons h
    refine trodAll_cons_mk (WideElems.Trod_stays hl (ht t (by simp)).1 (ht t (by simp)).2 h0 (fun x hx => hb.same (hlt x (by simp [hx]))) (fun x hx => hsp x (by simp [hx]))) ?_
    exact trodAll_stays hl hb ts vs0 ds0 q0 (fun t' h' => ht t' (by simp [h'])) r0 (fun x hx => hlt x (by simp [hx])) (fun x hx => hsp x (by simp [hx]))

/-- a law that answers true and leaves the old heap as it was meets its row's post -/
theorem law_post {f : Func} {s : ChangeSpec} {W W' : World} {args : Array Value} {ds : List (DataW H)} {before : List MemPlace} {tb : TypeId}
    (hW : DataW.Whole enc P f.params.toList s.vars false W args.toList ds [] before) (hv : s.vars = []) (hfn : s.fn H (ds ++ []) = { results := [.lit (.bool true)], args := ds }) (hf : f.resultTypes = #[tb]) (htb : P.underlying tb = some .bool)
    (hl : laidOutB P = true) (hr : ∀ t ∈ f.params.toList, P.readableRec t = true ∧ t < P.types.size) (hb : Below W.heap.size W W') :
    s.post enc P f false true false false W args (.bool true) W' := by
  have hlt : ∀ p ∈ before, p.block < W.heap.size := fun p hp => hW.lt p hp
  have hW2 := hW
  obtain ⟨p, q, hA, hV, hpq, _, _⟩ := hW2
  rw [hv] at hV
  obtain ⟨_, rfl⟩ := trodVars_none hV
  rw [List.append_nil] at hpq
  subst hpq
  refine ⟨ds, [], before, [], before, [], hW, ?_, ?_, ?_, hb.frame _, fun h => by cases h⟩
  · rw [hfn, hf]
    exact trodAll_cons_mk (shut_bool htb _) trodAll_mk0
  · rw [hfn]
    exact trodAll_stays hl hb _ _ _ _ hr hA hlt (fun p hp => by simpa using hlt p hp)
  · rw [hv, hfn]
    rfl
end

theorem addr_plain {w : World} {a : Addr} {v : Value} (h : w.cell? a = some v) : a = ⟨a.block, a.off, none⟩ := by
  obtain ⟨b, o, s⟩ := a
  cases s with
  | none => rfl
  | some s =>
    unfold World.cell? at h
    split at h <;> simp at h
theorem addp (b o k : Nat) : (⟨b, o, none⟩ : Addr).add k = ⟨b, o + k, none⟩ := by
  unfold Addr.add; split <;> simp_all
theorem cell_lt {W : World} {a : Addr} {v : Value} (h : W.cell? a = some v) : a.block < W.heap.size := by
  rcases Nat.lt_or_ge a.block W.heap.size with h' | h'
  · exact h'
  · simp [World.cell?, Array.getElem?_eq_none h'] at h

/-- all that lies in memory stays -/
def oldE (W : World) : Env := ⟨fun b _ => b < W.heap.size, fun _ => none, fun _ _ _ => False⟩

section
variable {H : Type} {enc : TypeId × Value → H} {P : Program} {W : World}
/-- cells that read as an element -/
def ElemOk (P : Program) (W : World) (enc : TypeId × Value → H) (e : TypeId) {α : Type} (g : α → AV) : Prop :=
  ∀ n cs x, DataW.trod enc P W 0 (fun _ => true) true n e cs = some x → ∃ a : α, ∀ E (j : Nat) (c : AV) (u : Value), (g a).cells[j]? = some c → cs[j]? = some u → Rep E W c u ∧ u.oneCell' = true
theorem open_slB {t e : TypeId} {sz : Nat} {α : Type} [Inhabited α] {g : α → AV} (ht : P.underlying t = some (.slice e)) (hc : P.cellsOf e = sz) (hsz : 0 < sz) (hg : ∀ a, (g a).cells.length = sz ∧ (g a).closed1 = true) (hel : ElemOk P W enc e g)
    {v : Value} {d : DataW H} {ps : List MemPlace} (hv : ∃ A len cap, v = .slice A len cap) (h : DataW.Trod enc P W 0 (fun _ => true) true t v d ps) : ∃ l : List α, Rep (oldE W) W (.sl sz (l.map g) .no) v := by
  obtain ⟨a, len, cap, rfl⟩ := hv
  obtain ⟨fuel, h⟩ := h
  rcases open_slice ht h with ⟨hcs, _⟩ | ⟨a', len', cap', m, n, D, Pl, hcs, hb, hl, hmx, hm, hx, hels⟩
  · simp [Value.cells] at hcs
    obtain ⟨rfl, rfl, rfl⟩ := hcs
    exact ⟨[], .sl sz [] .no none 0 (fun _ _ => .bool false) (by simp) (by simp [maxLen]) (.inl rfl) (by simp) (by simp) trivial (by simp) (fun _ _ => rfl)⟩
  · simp [Value.cells] at hcs
    obtain ⟨rfl, rfl, rfl⟩ := hcs
    have hm' : m = cap := by simpa using hm
    have hch : ∀ i, i < len → ∃ x : α × List Value, x.2.length = sz ∧ (∀ j, j < sz → W.cell? (a'.add (i * sz + j)) = x.2[j]?) ∧ ∀ E (j : Nat) (c : AV) (u : Value), (g x.1).cells[j]? = some c → x.2[j]? = some u → Rep E W c u ∧ u.oneCell' = true := fun i hi => by
      obtain ⟨cs, hcs, ht'⟩ := hels i (by omega)
      rw [hc] at hcs
      obtain ⟨_, hlen, hat⟩ := World.cells?_some hcs
      obtain ⟨x, hx⟩ := hel n cs _ ht'
      refine ⟨(x, cs), hlen, fun j hj => ?_, hx⟩
      have := hat j hj
      rw [Go.Deep.add_add] at this
      exact this
    obtain ⟨f, hf⟩ := choose_lt hch
    refine ⟨(List.range len).map fun i => (f i).1, ?_⟩
    have hlen : ((List.range len).map fun i => (f i).1).length = len := by simp
    have hln : (((List.range len).map fun i => (f i).1).map g).length = len := by simp
    have hget : ∀ (i : Nat) (e' : AV), (((List.range len).map fun i => (f i).1).map g)[i]? = some e' → i < len ∧ e' = g (f i).1 := fun i e' h => by
      have hi : i < len := by
        have := (List.getElem?_eq_some_iff.1 h).1
        simpa using this
      refine ⟨hi, ?_⟩
      simp [List.getElem?_range hi] at h
      exact h.symm
    let u : Nat → Nat → Value := fun i j => if i < len ∧ j < sz then ((f i).2[j]?).getD (.bool false) else .bool false
    have hu : ∀ i j, i < len → j < sz → (f i).2[j]? = some (u i j) := fun i j hi hj => by
      have h2 : j < (f i).2.length := by rw [(hf i hi).1]; exact hj
      simp only [u, hi, hj, and_self, if_true, List.getElem?_eq_getElem h2, Option.getD_some]
    have key := Rep.sl (E := oldE W) (w := W) sz (((List.range len).map fun i => (f i).1).map g) .no (some a') cap u (by rw [hln]; exact hl) hmx ?_ ?_ ?_ trivial ?_ ?_
    · rw [hln] at key; exact key
    · rcases Nat.eq_zero_or_pos len with h0 | h0
      · left; subst h0; rfl
      · right
        have h1 := (hf 0 h0).2.1 0 hsz
        rw [hu 0 0 h0 hsz] at h1
        have hadd : a'.add (0 * sz + 0) = a' := by unfold Addr.add; simp
        rw [hadd] at h1
        have hp := addr_plain h1
        refine ⟨a'.block, a'.off, by rw [← hp], fun i e' j c hi hj => ?_⟩
        obtain ⟨hlt, rfl⟩ := hget i e' hi
        have hjs : j < sz := by
          have := (List.getElem?_eq_some_iff.1 hj).1
          rw [(hg _).1] at this; exact this
        have h2 := (hf i hlt).2.1 j hjs
        rw [hu i j hlt hjs, hp, addp] at h2
        have e : a'.off + i * sz + j = a'.off + (i * sz + j) := by omega
        refine ⟨cell_lt h1, by rw [e]; exact h2⟩
    · intro e' he
      obtain ⟨x, hx, rfl⟩ := List.mem_map.1 he
      exact (hg x).1
    · intro e' he
      obtain ⟨x, hx, rfl⟩ := List.mem_map.1 he
      exact (hg x).2
    · intro i e' j c hi hj
      obtain ⟨hlt, rfl⟩ := hget i e' hi
      have hjs : j < sz := by
        have := (List.getElem?_eq_some_iff.1 hj).1
        rw [(hg _).1] at this; exact this
      exact ((hf i hlt).2.2 _ j c (u i j) hj (hu i j hlt hjs)).1
    · intro i j
      by_cases hij : i < len ∧ j < sz
      · have hjs : j < (g (f i).1).cells.length := by rw [(hg _).1]; exact hij.2
        exact ((hf i hij.1).2.2 (oldE W) j _ (u i j) (List.getElem?_eq_getElem hjs) (hu i j hij.1 hij.2)).2
      · simp only [u, if_neg hij]; rfl

theorem open_slA {t e : TypeId} {sz : Nat} {α : Type} [Inhabited α] {g : α → AV} (ht : P.underlying t = some (.slice e)) (hc : P.cellsOf e = sz) (hsz : 0 < sz) (hg : ∀ a, (g a).cells.length = sz ∧ (g a).closed1 = true) (hel : ElemOk P W enc e g)
    {v : Value} {d : DataW H} {ps : List MemPlace} {b0 : Nat} (hv : Value.okWide P W .any b0 t v) (h : DataW.Trod enc P W 0 (fun _ => true) true t v d ps) : ∃ l : List α, Rep (oldE W) W (.sl sz (l.map g) .no) v :=
  open_slB ht hc hsz hg hel (okWide_slice ht hv) h
theorem elem_u8 {e : TypeId} (he : P.underlying e = some (.int .u8)) : ElemOk P W enc e fun c : UInt8 => AV.int .u8 c.toNat := by
  intro n cs x h
  obtain ⟨k, rfl, _, hw⟩ := DataW.trod_int he h
  have hb : 0 ≤ k ∧ k ≤ 255 := by
    simp [Lit.wf, IntKind.min, IntKind.max, IntKind.signed, IntKind.bits] at hw
    omega
  refine ⟨UInt8.ofNat k.toNat, fun E j c u hc hu => ?_⟩
  have e1 : ((UInt8.ofNat k.toNat).toNat : Int) = k := by simp; omega
  match j, hc, hu with
  | 0, hc, hu =>
    simp only [AV.cells, List.getElem?_cons_zero, Option.some.injEq] at hc hu
    subst hc; subst hu
    rw [e1]
    exact ⟨.int _ _, rfl⟩
  | j + 1, hc, hu => simp [AV.cells] at hc
theorem elem_str {e : TypeId} (he : P.underlying e = some .string) : ElemOk P W enc e fun s : List UInt8 => AV.str s := by
  intro n cs x h
  obtain ⟨s, rfl, _, _⟩ := DataW.trod_string he h
  refine ⟨s.data.toList, fun E j c u hc hu => ?_⟩
  match j, hc, hu with
  | 0, hc, hu =>
    simp [AV.cells] at hc hu
    subst hc; subst hu
    exact ⟨mk_str s, rfl⟩
  | j + 1, hc, hu => simp [AV.cells] at hc
theorem open_bytesA {t e : TypeId} (ht : P.underlying t = some (.slice e)) (he : P.underlying e = some (.int .u8)) (hc : P.cellsOf e = 1)
    {v : Value} {d : DataW H} {ps : List MemPlace} {b0 : Nat} (hv : Value.okWide P W .any b0 t v) (h : DataW.Trod enc P W 0 (fun _ => true) true t v d ps) : ∃ l : List UInt8, Rep (oldE W) W (bytesA l) v :=
  open_slA ht hc (by omega) (fun _ => ⟨rfl, rfl⟩) (elem_u8 he) hv h
theorem open_strsA {t e : TypeId} (ht : P.underlying t = some (.slice e)) (he : P.underlying e = some .string) (hc : P.cellsOf e = 1)
    {v : Value} {d : DataW H} {ps : List MemPlace} {b0 : Nat} (hv : Value.okWide P W .any b0 t v) (h : DataW.Trod enc P W 0 (fun _ => true) true t v d ps) : ∃ l : List (List UInt8), Rep (oldE W) W (.sl 1 (l.map AV.str) .no) v :=
  open_slA ht hc (by omega) (fun _ => ⟨rfl, rfl⟩) (elem_str he) hv h
theorem open_strA {t : TypeId} (ht : P.underlying t = some .string)
    {v : Value} {d : DataW H} {ps : List MemPlace} {b0 : Nat} (hv : Value.okWide P W .any b0 t v) (h : DataW.Trod enc P W 0 (fun _ => true) true t v d ps) : ∃ l : List UInt8, Rep (oldE W) W (.str l) v := by
  obtain ⟨s, rfl, _⟩ := open_string ht hv h
  exact ⟨s.data.toList, mk_str s⟩
/-- package variables whose cells are known -/
theorem globA {G : Glob} (h : ∀ g e, G g = some e → e.closed1 = true ∧ ∀ (j : Nat) (c : AV), e.cells[j]? = some c → ∃ v, W.cell? ⟨g, j, none⟩ = some v ∧ Rep (oldE W) W c v ∧ v.oneCell' = true) (hb : ∀ g e, G g = some e → g < W.heap.size ∧ W.cell? ⟨g, e.cells.length, none⟩ = none) : GlobOk G (oldE W) W := by
  intro g e hg
  obtain ⟨h1, h2⟩ := h g e hg
  refine ⟨h1, ?_, hb g e hg⟩
  let u : Nat → Nat → Value := fun _ j => match W.cell? ⟨g, j, none⟩ with
    | some v => if j < e.cells.length then v else .bool false
    | none => .bool false
  have hu : ∀ i j c, e.cells[j]? = some c → W.cell? ⟨g, j, none⟩ = some (u i j) ∧ Rep (oldE W) W c (u i j) := fun i j c hc => by
    obtain ⟨v, hv, hr, _⟩ := h2 j c hc
    have hlt := (List.getElem?_eq_some_iff.1 hc).1
    simp only [u, hv, hlt, if_true]
    exact ⟨trivial, hr⟩
  have := Rep.elt (E := oldE W) (w := W) e.cells.length [e] 0 0 g 0 u (by intro x hx; simp at hx; subst hx; exact h1) (fun i e' j c hi hj => ?_) (fun i e' j c hi hj => ?_) (fun i j => ?_)
  · simpa using this
  · match i, hi with
    | 0, hi =>
      simp at hi; subst hi
      have h3 := hu 0 j c hj
      refine ⟨cell_lt h3.1, ?_⟩
      simpa using h3.1
    | i + 1, hi => simp at hi
  · match i, hi with
    | 0, hi =>
      simp at hi; subst hi
      exact (hu 0 j c hj).2
    | i + 1, hi => simp at hi
  · show (match W.cell? ⟨g, j, none⟩ with | some v => if j < e.cells.length then v else .bool false | none => .bool false : Value).oneCell' = true
    split
    · rename_i v hv
      split
      · rename_i hlt
        obtain ⟨v', hv', _, h3⟩ := h2 j _ (List.getElem?_eq_getElem hlt)
        rw [hv] at hv'
        injection hv' with hv'
        rw [hv']; exact h3
      · rfl
    · rfl
end
end Go.Abs

namespace Go.Abs
open Go.ChangeShapes Go.WideShapes Go.ChangeAt Go.RowKit Go.Deep Go.ChangeMaps
section
variable {H : Type} {enc : TypeId × Value → H} {P : Program} {W : World}
theorem rep_len {E : Env} {w : World} {sz : Nat} {es : List AV} {o : Own} {v : Value} (h : Rep E w (.sl sz es o) v) : es.length ≤ 9223372036854775807 := by
  cases h with | sl _ _ _ A cap u hcap hmax hA hsz hcl ho hr h1 => exact Nat.le_trans hcap hmax
/-- a package variable has the size of its type -/
theorem glob_size (hsh : W.ShapedOpen P) {g n : Nat} (hg : g < P.globals.size) (hz : (((begin P (fun _ _ => 0) default).world.heap[g]?).bind Obj.row?).map (fun x => x.1.size) = some n) : g < W.heap.size ∧ W.cell? ⟨g, n, none⟩ = none := by
  obtain ⟨h1, _⟩ := hsh
  cases hx : ((begin P (fun _ _ => 0) default).world.heap[g]?).bind Obj.row? with
  | none => rw [hx] at hz; cases hz
  | some x =>
    obtain ⟨zero, t⟩ := x
    rw [hx] at hz
    simp only [Option.map_some, Option.some.injEq] at hz
    obtain ⟨cs, hcs, hsz, _⟩ := h1 g zero t hg hx
    refine ⟨(Array.getElem?_eq_some_iff.1 hcs).1, ?_⟩
    unfold World.cell?
    simp only [hcs]
    have : cs[n]? = none := Array.getElem?_eq_none (by omega)
    simpa using this
/-- a cell that is a slice, in a struct -/
theorem cell_slA {t e : TypeId} {sz : Nat} {α : Type} [Inhabited α] {g : α → AV} (ht : P.underlying t = some (.slice e)) (hc : P.cellsOf e = sz) (hsz : 0 < sz) (hg : ∀ a, (g a).cells.length = sz ∧ (g a).closed1 = true) (hel : ElemOk P W enc e g)
    {n : Nat} {v : Value} {x : DataW H × List MemPlace} (h : DataW.trod enc P W 0 (fun _ => true) true n t [v] = some x) : ∃ l : List α, Rep (oldE W) W (.sl sz (l.map g) .no) v ∧ v.oneCell' = true := by
  have hs : ∃ A len cap, v = .slice A len cap := by
    rcases open_slice ht h with ⟨hcs, _⟩ | ⟨a', len', cap', m, n, D, Pl, hcs, _⟩
    · injection hcs with h1 _; exact ⟨_, _, _, h1⟩
    · injection hcs with h1 _; exact ⟨_, _, _, h1⟩
  obtain ⟨A, len, cap, rfl⟩ := hs
  obtain ⟨l, hl⟩ := open_slB ht hc hsz hg hel ⟨A, len, cap, rfl⟩ (d := x.1) (ps := x.2) ⟨n, by simpa [Value.cells] using h⟩
  exact ⟨l, hl, rfl⟩
theorem int_rng {n : Int} (h : (Lit.int .i64 n).wf = true) : -9223372036854775808 ≤ n ∧ n < 9223372036854775808 := by
  simp [Lit.wf, IntKind.min, IntKind.max, IntKind.signed, IntKind.bits] at h
  omega
theorem open_intA {t : TypeId} (ht : P.underlying t = some (.int .i64))
    {v : Value} {d : DataW H} {ps : List MemPlace} {b0 : Nat} (hv : Value.okWide P W .any b0 t v) (h : DataW.Trod enc P W 0 (fun _ => true) true t v d ps) : ∃ n : Int, Rep (oldE W) W (.int .i64 n) v ∧ -9223372036854775808 ≤ n ∧ n < 9223372036854775808 := by
  obtain ⟨n, rfl⟩ := okWide_int ht hv
  obtain ⟨fuel, h⟩ := h
  obtain ⟨k, e, _, hw⟩ := DataW.trod_int ht h
  simp [Value.cells] at e
  subst e
  exact ⟨n, .int _ _, int_rng hw⟩
end
end Go.Abs

namespace Go.Abs
open Go.ChangeShapes Go.WideShapes Go.ChangeAt Go.RowKit Go.Deep Go.ChangeMaps
section
variable {H : Type} {enc : TypeId × Value → H} {P : Program} {W : World}
def ElemQ (P : Program) (W : World) (enc : TypeId × Value → H) (e : TypeId) {α : Type} (g : α → AV) (Q : α → DataW H → Prop) : Prop :=
  ∀ n cs x, DataW.trod enc P W 0 (fun _ => true) true n e cs = some x → ∃ a : α, Q a x.1 ∧ ∀ E (j : Nat) (c : AV) (u : Value), (g a).cells[j]? = some c → cs[j]? = some u → Rep E W c u ∧ u.oneCell' = true
theorem open_slQ {t e : TypeId} {sz : Nat} {α : Type} [Inhabited α] {g : α → AV} {Q : α → DataW H → Prop} (ht : P.underlying t = some (.slice e)) (hc : P.cellsOf e = sz) (hsz : 0 < sz) (hg : ∀ a, (g a).cells.length = sz ∧ (g a).closed1 = true) (hel : ElemQ P W enc e g Q)
    {v : Value} {d : DataW H} {ps : List MemPlace} (hv : ∃ A len cap, v = .slice A len cap) (h : DataW.Trod enc P W 0 (fun _ => true) true t v d ps) :
    ∃ l : List α, Rep (oldE W) W (.sl sz (l.map g) .no) v ∧ (l = [] ∨ ∃ elems spare, d = .slice elems spare ∧ elems.length = l.length ∧ ∀ (i : Nat) a x, l[i]? = some a → elems[i]? = some x → Q a x) := by
  obtain ⟨a, len, cap, rfl⟩ := hv
  obtain ⟨fuel, h⟩ := h
  rcases open_slice ht h with ⟨hcs, _⟩ | ⟨a', len', cap', m, n, D, Pl, hcs, hb, hl, hmx, hm, hx, hels⟩
  · simp [Value.cells] at hcs
    obtain ⟨rfl, rfl, rfl⟩ := hcs
    exact ⟨[], .sl sz [] .no none 0 (fun _ _ => .bool false) (by simp) (by simp [maxLen]) (.inl rfl) (by simp) (by simp) trivial (by simp) (fun _ _ => rfl), .inl rfl⟩
  · simp [Value.cells] at hcs
    obtain ⟨rfl, rfl, rfl⟩ := hcs
    have hm' : m = cap := by simpa using hm
    have hch : ∀ i, i < len → ∃ x : α × List Value, x.2.length = sz ∧ (∀ j, j < sz → W.cell? (a'.add (i * sz + j)) = x.2[j]?) ∧ Q x.1 (D i) ∧ ∀ E (j : Nat) (c : AV) (u : Value), (g x.1).cells[j]? = some c → x.2[j]? = some u → Rep E W c u ∧ u.oneCell' = true := fun i hi => by
      obtain ⟨cs, hcs, ht'⟩ := hels i (by omega)
      rw [hc] at hcs
      obtain ⟨_, hlen, hat⟩ := World.cells?_some hcs
      obtain ⟨x, hq, hx⟩ := hel n cs _ ht'
      refine ⟨(x, cs), hlen, fun j hj => ?_, hq, hx⟩
      have := hat j hj
      rw [Go.Deep.add_add] at this
      exact this
    obtain ⟨f, hf⟩ := choose_lt hch
    refine ⟨(List.range len).map fun i => (f i).1, ?_, .inr ?_⟩
    · have hlen : ((List.range len).map fun i => (f i).1).length = len := by simp
      have hln : (((List.range len).map fun i => (f i).1).map g).length = len := by simp
      have hget : ∀ (i : Nat) (e' : AV), (((List.range len).map fun i => (f i).1).map g)[i]? = some e' → i < len ∧ e' = g (f i).1 := fun i e' h => by
        have hi : i < len := by
          have := (List.getElem?_eq_some_iff.1 h).1
          simpa using this
        refine ⟨hi, ?_⟩
        simp [List.getElem?_range hi] at h
        exact h.symm
      let u : Nat → Nat → Value := fun i j => if i < len ∧ j < sz then ((f i).2[j]?).getD (.bool false) else .bool false
      have hu : ∀ i j, i < len → j < sz → (f i).2[j]? = some (u i j) := fun i j hi hj => by
        have h2 : j < (f i).2.length := by rw [(hf i hi).1]; exact hj
        simp only [u, hi, hj, and_self, if_true, List.getElem?_eq_getElem h2, Option.getD_some]
      have key := Rep.sl (E := oldE W) (w := W) sz (((List.range len).map fun i => (f i).1).map g) .no (some a') cap u (by rw [hln]; exact hl) hmx ?_ ?_ ?_ trivial ?_ ?_
      · rw [hln] at key; exact key
      · rcases Nat.eq_zero_or_pos len with h0 | h0
        · left; subst h0; rfl
        · right
          have h1 := (hf 0 h0).2.1 0 hsz
          rw [hu 0 0 h0 hsz] at h1
          have hadd : a'.add (0 * sz + 0) = a' := by unfold Addr.add; simp
          rw [hadd] at h1
          have hp := addr_plain h1
          refine ⟨a'.block, a'.off, by rw [← hp], fun i e' j c hi hj => ?_⟩
          obtain ⟨hlt, rfl⟩ := hget i e' hi
          have hjs : j < sz := by
            have := (List.getElem?_eq_some_iff.1 hj).1
            rw [(hg _).1] at this; exact this
          have h2 := (hf i hlt).2.1 j hjs
          rw [hu i j hlt hjs, hp, addp] at h2
          have e : a'.off + i * sz + j = a'.off + (i * sz + j) := by omega
          refine ⟨cell_lt h1, by rw [e]; exact h2⟩
      · intro e' he
        obtain ⟨x, hx, rfl⟩ := List.mem_map.1 he
        exact (hg x).1
      · intro e' he
        obtain ⟨x, hx, rfl⟩ := List.mem_map.1 he
        exact (hg x).2
      · intro i e' j c hi hj
        obtain ⟨hlt, rfl⟩ := hget i e' hi
        have hjs : j < sz := by
          have := (List.getElem?_eq_some_iff.1 hj).1
          rw [(hg _).1] at this; exact this
        exact ((hf i hlt).2.2.2 _ j c (u i j) hj (hu i j hlt hjs)).1
      · intro i j
        by_cases hij : i < len ∧ j < sz
        · have hjs : j < (g (f i).1).cells.length := by rw [(hg _).1]; exact hij.2
          exact ((hf i hij.1).2.2.2 (oldE W) j _ (u i j) (List.getElem?_eq_getElem hjs) (hu i j hij.1 hij.2)).2
        · simp only [u, if_neg hij]; rfl
    · have hx1 := congrArg Prod.fst hx
      simp only at hx1
      refine ⟨_, _, hx1, by simp, fun i a x hi hxi => ?_⟩
      have hlt : i < len := by
        have := (List.getElem?_eq_some_iff.1 hi).1
        simpa using this
      simp [List.getElem?_range hlt] at hi hxi
      subst hi; subst hxi
      exact (hf i hlt).2.2.1
end
end Go.Abs
