/- Own texts, part 5. -/
import Derived.Test.YtfcdefnkhkijaaaGreatDoorPart3
import Derived.Orders
import Derived.Recover

namespace Go.Abs
open Go.RowKit
inductive PX where
 | ok (x : AExit)
 | pan (v : Value)
def PX.to : PX → Exit
 | .ok x => x.to
 | .pan v => .panic [{ v, recovered := false }]
abbrev PK := PX → List AV → St → Prop
abbrev PStep := List AV → St → PK → Prop
abbrev InC := FuncId → List AV → St → (Option Value → AV → St → Prop) → Prop
def panOp (ρ : Operand → AV) : Op → Option Value
 | .panic x =>
  match ρ x with
  | .lit (.iface t v) => some (.iface t v)
  | _ => none
 | _ => none
def inCall (fs : FuncId → Bool) (ρ : Operand → AV) : Op → Option (FuncId × List AV)
 | .call c =>
  match c.callee with
  | .value x =>
   match ρ x with
   | .fn g cap => if fs g then some (g, c.args.toList.map ρ ++ cap) else none
   | _ => none
  | _ => none
 | _ => none
def plistW (P : Program) (G : Glob) (X : Shapes) (R : Callee) (C : CCallee) (fs : FuncId → Bool) (J : InC) (ops : List Oper) : List Oper → Nat → List AV → St → PK → Prop
 | [], _, T, S, K => K (.ok .normal) T S
 | o :: l, bid, T, S, K =>
  match guardA ops T o with
  | some true =>
   match panOp (evA G T) o.op with
   | some v => K (.pan v) T S
   | none =>
    match inCall fs (evA G T) o.op with
    | some (f, as) => J f as S fun p r S' =>
     match p with
     | none => plistW P G X R C fs J ops l (nextBid o bid) (putA T o.dst r) S' K
     | some v => K (.pan v) T S'
    | none => stepWl P G X R C ops bid o T S fun r S' => plistW P G X R C fs J ops l (nextBid o bid) (putA T o.dst r) S' K
  | _ => stepWl P G X R C ops bid o T S fun r S' => plistW P G X R C fs J ops l (nextBid o bid) (putA T o.dst r) S' K
def InOk (P : Program) (G : Glob) (fs : FuncId → Bool) (J : InC) : Prop :=
 ∀ f args S K, fs f = true → J f args S K → goodFn P f ∧
  ∀ (N0 : Nat → Prop) (w0 : World) (I0 : Nat → Nat → Prop) (E : Env) (w : World) (vs : Array Value), SR P G N0 w0 I0 S E w → vs.size = args.length → (∀ (i : Nat) (c : AV) (v : Value), args[i]? = some c → vs[i]? = some v → Rep E w c v) →
   Calls P f vs w fun e w' => ∃ E' r S', SR P G N0 w0 I0 S' E' w' ∧ Env.Le E E' w w' ∧
    ((∃ v, e = .returned v ∧ K none r S' ∧ Rep E' w' r v) ∨ (∃ v, e = .panicked [{ v, recovered := false }] ∧ K (some v) r S'))
def POk (P : Program) (G : Glob) (N0 : Nat → Prop) (w0 : World) (I0 : Nat → Nat → Prop) (f : PStep) (c : Code) : Prop :=
 ∀ (T : List AV) (S : St) (K : PK) (E : Env) (a : Act) (w : World) (Q : Exit → Act → World → Prop), f T S K → SR P G N0 w0 I0 S E w → TR E w T a.tmps →
  (∀ x T' S' E' w' a', K x T' S' → SR P G N0 w0 I0 S' E' w' → Env.Le E E' w w' → TR E' w' T' a'.tmps → a'.defers = a.defers → Q x.to a' w') → c.wp P Q a w
section
variable {P : Program} {G : Glob} {N0 : Nat → Prop} {w0 : World} {I0 : Nat → Nat → Prop}
theorem panOp_run {T : List AV} {a : Act} {E : Env} {w : World} {o : Oper} {S : St} {v : Value} (hS : SR P G N0 w0 I0 S E w) (hT : TR E w T a.tmps) (h : panOp (evA G T) o.op = some v) :
  (execOp a.eval o).run P w = .halt (.panic v) w := by
 obtain ⟨dst, op, type, pos, after, guard⟩ := o
 simp only at h
 unfold panOp at h
 split at h
 ·rename_i x
  split at h
  ·rename_i t u he
   have hr := evA_rep hS.glob hT x
   rw [he] at hr
   have := rep_lit hr
   injection h with h
   subst h
   simp [execOp, Instr.panic, this, goPanic]
  ·cases h
 ·cases h
theorem inCall_run {fs : FuncId → Bool} {T : List AV} {a : Act} {E : Env} {w : World} {o : Oper} {S : St} {f : FuncId} {as : List AV} (hS : SR P G N0 w0 I0 S E w) (hT : TR E w T a.tmps) (h : inCall fs (evA G T) o.op = some (f, as)) :
  fs f = true ∧ ∃ vs : Array Value, vs.size = as.length ∧ (∀ (i : Nat) (c : AV) (v : Value), as[i]? = some c → vs[i]? = some v → Rep E w c v) ∧ (goodFn P f → (execOp a.eval o).run P w = .ok (.enter f vs) w) := by
 obtain ⟨dst, op, type, pos, after, guard⟩ := o
 simp only at h
 unfold inCall at h
 split at h
 ·rename_i c
  obtain ⟨callee, args, argTypes⟩ := c
  simp only at h
  split at h
  ·rename_i x
   have hf := evA_rep hS.glob hT x
   split at h
   ·rename_i g cap he
    rw [he] at hf
    obtain ⟨caps, hfv, hcn, hcr⟩ := rep_fn hf
    split at h
    ·rename_i hg
     simp only [Option.some.injEq, Prod.mk.injEq] at h
     obtain ⟨rfl, rfl⟩ := h
     refine ⟨hg, args.map a.eval ++ caps, by simp [hcn], fun i c v hi hv => ?_, fun hg => by simp [execOp, resolve, hfv, Deferred.ofValue, invoke, run_callFunc hg]⟩
     by_cases hlt : i < args.size
     ·rw [List.getElem?_append_left (by simpa using hlt)] at hi
      rw [Array.getElem?_append_left (by simpa using hlt)] at hv
      exact map_rep hS hT args i c v hi hv
     ·rw [List.getElem?_append_right (by simp; omega)] at hi
      rw [Array.getElem?_append_right (by simp; omega)] at hv
      exact hcr _ c v hi (by simpa using hv)
    ·cases h
   ·cases h
  ·cases h
 ·cases h
theorem plistW_wp {X : Shapes} {R : Callee} {C : CCallee} {fs : FuncId → Bool} {J : InC} (hR : CalleeOk P G R) (hC : ICalleeOk P G (lowC C)) (hJ : InOk P G fs J) {ops : List Oper} {Q : Exit → Act → World → Prop} : ∀ {l : List Oper} {bid : Nat} {T : List AV} {S : St} {K : PK} {E : Env} {a : Act} {w : World},
  SR P G N0 w0 I0 S E w → TR E w T a.tmps → plistW P G X R C fs J ops l bid T S K →
  (∀ x T' S' E' w' a', K x T' S' → SR P G N0 w0 I0 S' E' w' → Env.Le E E' w w' → TR E' w' T' a'.tmps → a'.defers = a.defers → Q x.to a' w') → wpList P ops.toArray Q l a w
 | [], _, T, S, K, E, a, w, hS, hT, h, hQ => hQ _ T S E w a h hS (Env.Le.refl _ _) hT rfl
 | o :: l, bid, T, S, K, E, a, w, hS, hT, h, hQ => by
  have step : (stepWl P G X R C ops bid o T S fun r S' => plistW P G X R C fs J ops l (nextBid o bid) (putA T o.dst r) S' K) → wpList P ops.toArray Q (o :: l) a w := fun h => by
   refine step_wp hR hC hS hT h fun E' w' v r S' hk h1 h2 h3 => ?_
   exact plistW_wp hR hC hJ h1 ((hT.le h2).putA o.dst h3) hk fun x T2 S2 E2 w2 a2 k0 k1 k2 k3 k4 => hQ x T2 S2 E2 w2 a2 k0 k1 (h2.trans k2) k3 (k4.trans (put_defers _ _ _))
  simp only [plistW] at h
  split at h
  ·rename_i hg
   have hw := guardA_run hg hT.1 (fun j want t c v _ _ hc hv => hT.2 t c v hc hv)
   split at h
   ·rename_i v hp
    simp only [wpList, hw, if_true]
    refine .inl ?_
    unfold Oper.wp
    rw [panOp_run hS hT hp]
    exact hQ (.pan v) T S E w a h hS (Env.Le.refl _ _) hT rfl
   ·split at h
    ·rename_i f as hc
     obtain ⟨hf, vs, hn, hv, hrun⟩ := inCall_run hS hT hc
     obtain ⟨hg2, hcall⟩ := hJ f as S _ hf h
     simp only [wpList, hw, if_true]
     refine .inl ?_
     unfold Oper.wp
     rw [hrun hg2]
     refine (hcall N0 w0 I0 E w vs hS hn hv).mono fun e w' ⟨E', r, S', h1, h2, h3⟩ => ?_
     rcases h3 with ⟨v, rfl, hk, h3⟩ | ⟨v, rfl, hk⟩
     ·exact plistW_wp hR hC hJ h1 ((hT.le h2).putA o.dst h3) hk fun x T2 S2 E2 w2 a2 k0 k1 k2 k3 k4 => hQ x T2 S2 E2 w2 a2 k0 k1 (h2.trans k2) k3 (k4.trans (put_defers _ _ _))
     ·exact hQ (.pan v) T S' E' w' a hk h1 h2 (hT.le h2) rfl
    ·exact step h
  ·exact step h
end
def allI (f : Nat → Prop) : List Nat → Prop
 | [] => True
 | i :: l => f i ∧ allI f l
theorem allI_mem {f : Nat → Prop} : ∀ {l : List Nat}, allI f l → ∀ i ∈ l, f i
 | [], _, i, h => by simp at h
 | a :: l, h, i, hi => by
  rcases List.mem_cons.1 hi with rfl | hi
  ·exact h.1
  ·exact allI_mem h.2 i hi
def popW (P : Program) (G : Glob) (X : Shapes) (R : Callee) (C : CCallee) (fs : FuncId → Bool) (J : InC) (ops : List Oper) (bid : Nat) (o : Oper) (T : List AV) (S : St) (K : AV → St → Prop) (Kp : Value → St → Prop) : Prop :=
 match guardA ops T o with
 | some true =>
  match panOp (evA G T) o.op with
  | some v => Kp v S
  | none =>
   match inCall fs (evA G T) o.op with
   | some (f, as) => J f as S fun p r S' =>
    match p with
    | none => K r S'
    | some v => Kp v S'
   | none => stepW P G X R C ops bid o T S K
 | _ => stepW P G X R C ops bid o T S K
def bidAt (ops : List Oper) (b0 i : Nat) : Nat := b0 + (ops.take i).countP fun o => isAlloc o.op
def anyW (P : Program) (G : Glob) (X : Shapes) (R : Callee) (C : CCallee) (fs : FuncId → Bool) (J : InC) (ops : List Oper) (b0 : Nat) : Nat → Array Bool → List AV → St → PK → Prop
 | 0, listed, T, S, K => if (Region.ready .any ops.toArray listed).isEmpty then K (.ok .normal) T S else False
 | n + 1, listed, T, S, K =>
  match Region.ready .any ops.toArray listed with
  | [] => K (.ok .normal) T S
  | r :: rs => allI (fun i =>
    match ops[i]? with
    | none => False
    | some o => popW P G X R C fs J ops (bidAt ops b0 i) o T S (fun r S' => anyW P G X R C fs J ops b0 n (listed.setIfInBounds i true) (putA T o.dst r) S' K) fun v S' => K (.pan v) T S') (r :: rs)
section
variable {P : Program} {G : Glob} {N0 : Nat → Prop} {w0 : World} {I0 : Nat → Nat → Prop}
theorem popW_wp {X : Shapes} {R : Callee} {C : CCallee} {fs : FuncId → Bool} {J : InC} (hR : CalleeOk P G R) (hC : ICalleeOk P G (lowC C)) (hJ : InOk P G fs J) {ops : List Oper} {Q : Exit → Act → World → Prop} {i : Nat} {o : Oper} (ho : ops[i]? = some o) {bid : Nat} {T : List AV} {S : St} {K : AV → St → Prop} {Kp : Value → St → Prop} {KK : Act → World → Prop} {E : Env} {a : Act} {w : World}
  (hS : SR P G N0 w0 I0 S E w) (hT : TR E w T a.tmps) (h : popW P G X R C fs J ops bid o T S K Kp)
  (hK : ∀ E' w' v r S', K r S' → SR P G N0 w0 I0 S' E' w' → Env.Le E E' w w' → Rep E' w' r v → KK (a.put o.dst v) w')
  (hQ : ∀ E' w' v S', Kp v S' → SR P G N0 w0 I0 S' E' w' → Env.Le E E' w w' → Q (.panic [{ v, recovered := false }]) a w') : wpOp P ops.toArray Q i KK a w := by
 have hoi : ops.toArray[i]? = some o := by simpa using ho
 have step : stepW P G X R C ops bid o T S K → wpOp P ops.toArray Q i KK a w := fun h => by
  obtain ⟨r, S1, hs, hk⟩ := stepW_imp h
  unfold stepA at hs
  unfold wpOp
  simp only [hoi]
  split at hs
  ·rename_i hg
   have hw := guardA_run hg hT.1 (fun j want t c v _ _ hc hv => hT.2 t c v hc hv)
   simp only [hw, if_true]
   exact .inl (op_wp hR hC hS hT hs fun E' w' v h1 h2 h3 => hK E' w' v r S1 hk h1 h2 h3)
  ·rename_i hg
   have hw := guardA_run hg hT.1 (fun j want t c v _ _ hc hv => hT.2 t c v hc hv)
   simp only [hw, Bool.false_eq_true, if_false]
   simp at hs
   obtain ⟨rfl, rfl⟩ := hs
   exact hK E w _ _ _ hk hS (Env.Le.refl _ _) rep_undef
  ·cases hs
 unfold popW at h
 split at h
 ·rename_i hg
  have hw := guardA_run hg hT.1 (fun j want t c v _ _ hc hv => hT.2 t c v hc hv)
  split at h
  ·rename_i v hp
   unfold wpOp
   simp only [hoi, hw, if_true]
   refine .inl ?_
   unfold Oper.wp
   rw [panOp_run hS hT hp]
   exact hQ E w v S h hS (Env.Le.refl _ _)
  ·split at h
   ·rename_i f as hc
    obtain ⟨hf, vs, hn, hv, hrun⟩ := inCall_run hS hT hc
    obtain ⟨hg2, hcall⟩ := hJ f as S _ hf h
    unfold wpOp
    simp only [hoi, hw, if_true]
    refine .inl ?_
    unfold Oper.wp
    rw [hrun hg2]
    refine (hcall N0 w0 I0 E w vs hS hn hv).mono fun e w' ⟨E', r, S', h1, h2, h3⟩ => ?_
    rcases h3 with ⟨v, rfl, hk, h3⟩ | ⟨v, rfl, hk⟩
    ·exact hK E' w' v r S' hk h1 h2 h3
    ·exact hQ E' w' v S' hk h1 h2
   ·exact step h
 ·exact step h
theorem anyW_wp {X : Shapes} {R : Callee} {C : CCallee} {fs : FuncId → Bool} {J : InC} (hR : CalleeOk P G R) (hC : ICalleeOk P G (lowC C)) (hJ : InOk P G fs J) {ops : List Oper} {b0 : Nat} {Q : Exit → Act → World → Prop} : ∀ {n : Nat} {listed : Array Bool} {T : List AV} {S : St} {K : PK} {E : Env} {a : Act} {w : World},
  SR P G N0 w0 I0 S E w → TR E w T a.tmps → anyW P G X R C fs J ops b0 n listed T S K →
  (∀ x T' S' E' w' a', K x T' S' → SR P G N0 w0 I0 S' E' w' → Env.Le E E' w w' → TR E' w' T' a'.tmps → a'.defers = a.defers → Q x.to a' w') → wpAny P .any ops.toArray Q n listed a w
 | 0, listed, T, S, K, E, a, w, hS, hT, h, hQ => by
  simp only [anyW] at h
  split at h
  ·rename_i he
   exact ⟨List.isEmpty_iff.1 he, hQ (.ok .normal) T S E w a h hS (Env.Le.refl _ _) hT rfl⟩
  ·exact h.elim
 | n + 1, listed, T, S, K, E, a, w, hS, hT, h, hQ => by
  simp only [anyW] at h
  split at h
  ·rename_i he
   exact wpAny_done he (hQ (.ok .normal) T S E w a h hS (Env.Le.refl _ _) hT rfl) _
  ·rename_i r rs he
   refine wpAny_all he (by simp) fun i hi => ?_
   have hh := allI_mem h i hi
   cases ho : ops[i]? with
   | none => simp [ho] at hh
   | some o =>
    simp only [ho] at hh
    exact popW_wp hR hC hJ ho hS hT hh (fun E' w' v r S' hk h1 h2 h3 => anyW_wp hR hC hJ h1 ((hT.le h2).putA o.dst h3) hk fun x T2 S2 E2 w2 a2 k0 k1 k2 k3 k4 => hQ x T2 S2 E2 w2 a2 k0 k1 (h2.trans k2) k3 (k4.trans (put_defers _ _ _)))
     fun E' w' v S' hk h1 h2 => hQ (.pan v) T S' E' w' a hk h1 h2 (hT.le h2) rfl
def drawW (P : Program) (G : Glob) (X : Shapes) (R : Callee) (C : CCallee) (fs : FuncId → Bool) (J : InC) (ops : List Oper) : PStep := fun T S K =>
 anyW P G X R C fs J ops S.boxes.length ops.length (Array.replicate ops.length false) T (roomFor ops S) K
theorem drawW_ok {X : Shapes} {R : Callee} {C : CCallee} {fs : FuncId → Bool} {J : InC} (hm : P.follows .mixedOrders = true) (hR : CalleeOk P G R) (hC : ICalleeOk P G (lowC C)) (hJ : InOk P G fs J) {id : Nat} {ops : Array Oper} :
  POk P G N0 w0 I0 (drawW P G X R C fs J ops.toList) (.region id ops true) := by
 intro T S K E a w Q h hS hT hQ
 refine wp_region_any hm ?_
 obtain ⟨hS1, hL1⟩ := (hS.roomFor ops.toList).ext (w' := w.drew) (below_drew w) (I' := E.I) (fun _ _ h => h) (fun _ _ h => .inl h)
 have := anyW_wp (N0 := N0) (w0 := w0) (I0 := I0) hR hC hJ (Q := Q) hS1 (hT.le hL1) h fun x T' S' E' w' a' k0 k1 k2 k3 k4 => hQ x T' S' E' w' a' k0 k1 (hL1.trans k2) k3 k4
 simpa using this
end
def hasP (ps : List Nat) : Code → Bool
 | .region id _ _ => ps.contains id
 | .seq a b => hasP ps a || hasP ps b
 | .cond _ a b => hasP ps a || hasP ps b
 | .block _ b | .loop b | .scope b => hasP ps b
 | _ => false
def pseqK (f : PStep) (K : PK) : PK := fun x T S =>
 match x with
 | .ok .normal => f T S K
 | x => K x T S
def pblockK (id : Nat) (K : PK) : PK := fun x T S =>
 match x with
 | .ok (.exit id') => if id' = id then K (.ok .normal) T S else K (.ok (.exit id')) T S
 | x => K x T S
def pannW (P : Program) (mk : Mk) (an : Ann) (f : PStep) : PStep := fun T S K =>
 landM P S.boxes.length S.live.length T.length an T S (fun _ => True) ∧
 ∀ x, an.I x → forkT an.bools (headT T.length an.slots (an.vals x)) fun T' => mk T' (an.sS x) fun T' S0 => f T' S0 fun e T'' S'' =>
  match e with
  | .ok .normal => landW S.boxes.length S.live.length T.length an T'' S'' fun y => an.μ y < an.μ x
  | e => K e T'' S''
def punrollW (f : PStep) : Nat → PStep
 | 0 => fun _ _ _ => False
 | n + 1 => fun T S K => f T S fun e T' S' =>
  match e with
  | .ok .normal => punrollW f n T' S' K
  | e => K e T' S'
def ploopW (P : Program) (mk : Mk) (an : Option Ann) (f : PStep) : PStep := fun T S K =>
 match an with
 | none => False
 | some an =>
  match an.unroll with
  | n + 1 => punrollW f (n + 1) T S K
  | 0 => pannW P mk an f T S K
def pcutW (P : Program) (mk : Mk) (an : Option Ann) (f g : PStep) : PStep := fun T S K =>
 match an with
 | none => f T S (pseqK g K)
 | some an => (f T S fun e T' S' =>
   match e with
   | .ok .normal => landM P S.boxes.length S.live.length T.length an T' S' (an.rel T)
   | e => K e T' S') ∧
  ∀ x, an.I x → an.rel T x → forkT an.bools (headT T.length an.slots (an.vals x)) fun T' => mk T' (an.sS x) fun T' S0 => g T' S0 K
def pliftW (f : WStep) : PStep := fun T S K => f T S fun x T S => K (.ok x) T S
def pcodeW (P : Program) (mk : Mk) (G : Glob) (X : Shapes) (R : Callee) (C : CCallee) (fs : FuncId → Bool) (J : InC) (ps : List Nat) (A : Anns) (m : List Bool) : Code → PStep
 | .region id ops draw =>
  if hasP ps (.region id ops draw) then
   if draw then fun T S K => drawW P G X R C fs J ops.toList T S fun x T' S' =>
    match x with
    | .ok .normal => mk (maskA m T') S' (K (.ok .normal))
    | x => K x (maskA m T') S'
   else fun T S K => plistW P G X R C fs J ops.toList ops.toList S.boxes.length T (roomFor ops.toList S) fun x T' S' =>
    match x with
    | .ok .normal => mk (maskA m T') S' (K (.ok .normal))
    | x => K x (maskA m T') S'
  else pliftW (codeW P mk G X R C A m (.region id ops draw) noLd)
 | .seq a b =>
  if hasP ps (.seq a b) then pcutW P mk (A.loop (cutAt (firstReg b))) (pcodeW P mk G X R C fs J ps A m a) (pcodeW P mk G X R C fs J ps A m b)
  else pliftW (codeW P mk G X R C A m (.seq a b) noLd)
 | .cond q x y =>
  if hasP ps (.cond q x y) then fun T S K =>
   match evA G T q with
   | .bool true => pcodeW P mk G X R C fs J ps A m x T S K
   | .bool false => pcodeW P mk G X R C fs J ps A m y T S K
   | _ => False
  else pliftW (codeW P mk G X R C A m (.cond q x y) noLd)
 | .block id b =>
  if hasP ps (.block id b) then fun T S K => pcodeW P mk G X R C fs J ps A m b T S (pblockK id K)
  else pliftW (codeW P mk G X R C A m (.block id b) noLd)
 | .loop b =>
  if hasP ps (.loop b) then ploopW P mk (A.loop (firstReg b)) (pcodeW P mk G X R C fs J ps A m b)
  else pliftW (codeW P mk G X R C A m (.loop b) noLd)
 | c => if hasP ps c then fun _ _ _ => False else pliftW (codeW P mk G X R C A m c noLd)
section
variable {P : Program} {G : Glob} {N0 : Nat → Prop} {w0 : World} {I0 : Nat → Nat → Prop}
theorem pliftW_ok {f : WStep} {c : Code} (h : WOk P G N0 w0 I0 f c) : POk P G N0 w0 I0 (pliftW f) c := by
 intro T S K E a w Q hf hS hT hQ
 exact h T S _ E a w Q hf hS hT fun x T' S' E' w' a' k0 k1 k2 k3 k4 => hQ (.ok x) T' S' E' w' a' k0 k1 k2 k3 k4
theorem pseqW_ok {f g : PStep} {c d : Code} (hf : POk P G N0 w0 I0 f c) (hg : POk P G N0 w0 I0 g d) : POk P G N0 w0 I0 (fun T S K => f T S (pseqK g K)) (.seq c d) := by
 intro T S K E a w Q h hS hT hQ
 refine wp_seq (hf T S _ E a w _ h hS hT fun x T' S' E' w' a' hk k1 k2 k3 k4 => ?_)
 cases x with
 | pan v => exact hQ (.pan v) _ _ E' w' a' hk k1 k2 k3 k4
 | ok x =>
 cases x with
 | normal => exact hg T' S' K E' a' w' Q hk k1 k3 fun x T2 S2 E2 w2 a2 l0 l1 l2 l3 l4 => hQ x T2 S2 E2 w2 a2 l0 l1 (k2.trans l2) l3 (l4.trans k4)
 | exit id => exact hQ (.ok (.exit id)) _ _ E' w' a' hk k1 k2 k3 k4
 | goto l => exact hQ (.ok (.goto l)) _ _ E' w' a' hk k1 k2 k3 k4
 | ret => exact hQ (.ok .ret) _ _ E' w' a' hk k1 k2 k3 k4
theorem pblockW_ok {f : PStep} {c : Code} {id : Nat} (hf : POk P G N0 w0 I0 f c) : POk P G N0 w0 I0 (fun T S K => f T S (pblockK id K)) (.block id c) := by
 intro T S K E a w Q h hS hT hQ
 refine wp_block (hf T S _ E a w _ h hS hT fun x T' S' E' w' a' hk k1 k2 k3 k4 => ?_)
 cases x with
 | pan v => exact hQ (.pan v) _ _ E' w' a' hk k1 k2 k3 k4
 | ok x =>
 cases x with
 | normal => exact hQ (.ok .normal) _ _ E' w' a' hk k1 k2 k3 k4
 | goto l => exact hQ (.ok (.goto l)) _ _ E' w' a' hk k1 k2 k3 k4
 | ret => exact hQ (.ok .ret) _ _ E' w' a' hk k1 k2 k3 k4
 | exit id' =>
  simp only [pblockK] at hk
  show (if id' = id then Q .normal a' w' else Q (.exit id') a' w')
  split at hk
  ·rename_i e; rw [if_pos e]; exact hQ (.ok .normal) _ _ E' w' a' hk k1 k2 k3 k4
  ·rename_i e; rw [if_neg e]; exact hQ (.ok (.exit id')) _ _ E' w' a' hk k1 k2 k3 k4
theorem pannW_ok {an : Ann} {f : PStep} {c : Code} (hf : POk P G N0 w0 I0 f c) : POk P G N0 w0 I0 (pannW P idMk an f) (.loop c) := by
 intro T S K E a w Q h hS hT hQ
 simp only [pannW] at h
 obtain ⟨h0, hr⟩ := h
 obtain ⟨y, E2, l1, l2, l3, l4, _⟩ := landM_ok h0 hS rfl rfl hS (Env.Le.refl E w) hT
 have key : ∀ n, ∀ (a1 : Act) (w1 : World), (∃ y E', an.μ y = n ∧ an.I y ∧ SR P G N0 w0 I0 (an.sS y) E' w1 ∧ Env.Le E E' w w1 ∧ TR E' w1 (headT T.length an.slots (an.vals y)) a1.tmps ∧ a1.defers = a.defers) → LoopKey P c Q a1 w1 := by
  intro n
  induction n using Nat.strongRecOn with
  | _ n ih =>
   rintro a1 w1 ⟨y, E', hn, hI, hS', hL', hT', hd'⟩
   refine key_step (hf _ _ _ E' a1 w1 _ (forkT_imp (hr y hI)) hS' hT' fun x T2 S2 E2 w2 a2 hk m1 m2 m3 m4 => ?_)
   cases x with
   | pan v => exact hQ (.pan v) _ _ E2 w2 a2 hk m1 (hL'.trans m2) m3 (m4.trans hd')
   | ok x =>
   cases x with
   | normal =>
    obtain ⟨z, E3, q1, q2, q3, q4, q5⟩ := landW_ok hk hS rfl rfl m1 (hL'.trans m2) m3
    exact ih (an.μ z) (by omega) a2 w2 ⟨z, E3, rfl, q4, q1, q2, q3, m4.trans hd'⟩
   | exit id => exact hQ (.ok (.exit id)) _ _ E2 w2 a2 hk m1 (hL'.trans m2) m3 (m4.trans hd')
   | goto l => exact hQ (.ok (.goto l)) _ _ E2 w2 a2 hk m1 (hL'.trans m2) m3 (m4.trans hd')
   | ret => exact hQ (.ok .ret) _ _ E2 w2 a2 hk m1 (hL'.trans m2) m3 (m4.trans hd')
 exact key_wp (key (an.μ y) a w ⟨y, E2, rfl, l4, l1, l2, l3, rfl⟩)
theorem punrollW_ok {f : PStep} {c : Code} (hf : POk P G N0 w0 I0 f c) (n : Nat) : POk P G N0 w0 I0 (punrollW f n) (.loop c) := by
 have key : ∀ n (T : List AV) (S : St) (K : PK) (E : Env) (a : Act) (w : World) (Q : Exit → Act → World → Prop), punrollW f n T S K → SR P G N0 w0 I0 S E w → TR E w T a.tmps →
   (∀ x T' S' E' w' a', K x T' S' → SR P G N0 w0 I0 S' E' w' → Env.Le E E' w w' → TR E' w' T' a'.tmps → a'.defers = a.defers → Q x.to a' w') → Code.rounds P c Q n a w := by
  intro n
  induction n with
  | zero => exact fun T S K E a w Q h hS hT hQ => h.elim
  | succ n ih =>
   intro T S K E a w Q h hS hT hQ
   refine hf T S _ E a w _ h hS hT fun x T2 S2 E2 w2 a2 hk m1 m2 m3 m4 => ?_
   cases x with
   | pan v => exact hQ (.pan v) _ _ E2 w2 a2 hk m1 m2 m3 m4
   | ok x =>
   cases x with
   | normal => exact ih T2 S2 K E2 a2 w2 Q hk m1 m3 fun x T3 S3 E3 w3 a3 l0 l1 l2 l3 l4 => hQ x T3 S3 E3 w3 a3 l0 l1 (m2.trans l2) l3 (l4.trans m4)
   | exit id => exact hQ (.ok (.exit id)) _ _ E2 w2 a2 hk m1 m2 m3 m4
   | goto l => exact hQ (.ok (.goto l)) _ _ E2 w2 a2 hk m1 m2 m3 m4
   | ret => exact hQ (.ok .ret) _ _ E2 w2 a2 hk m1 m2 m3 m4
 exact fun T S K E a w Q h hS hT hQ => wp_loop_rounds n (key n T S K E a w Q h hS hT hQ)
theorem ploopW_ok {an : Option Ann} {f : PStep} {c : Code} (hf : POk P G N0 w0 I0 f c) : POk P G N0 w0 I0 (ploopW P idMk an f) (.loop c) := by
 intro T S K E a w Q h hS hT hQ
 cases an with
 | none => exact h.elim
 | some an =>
  simp only [ploopW] at h
  split at h
  ·exact punrollW_ok hf _ T S K E a w Q h hS hT hQ
  ·exact pannW_ok hf T S K E a w Q h hS hT hQ
theorem pcutW_ok {an : Option Ann} {f g : PStep} {c d : Code} (hf : POk P G N0 w0 I0 f c) (hg : POk P G N0 w0 I0 g d) : POk P G N0 w0 I0 (pcutW P idMk an f g) (.seq c d) := by
 intro T S K E a w Q h hS hT hQ
 unfold pcutW at h
 split at h
 ·exact pseqW_ok hf hg T S K E a w Q h hS hT hQ
 ·rename_i an
  obtain ⟨h0, hr⟩ := h
  refine wp_seq (hf T S _ E a w _ h0 hS hT fun e T' S' E' w' a' hk k1 k2 k3 k4 => ?_)
  cases e with
  | pan v => exact hQ (.pan v) _ _ E' w' a' hk k1 k2 k3 k4
  | ok e =>
  cases e with
  | normal =>
   obtain ⟨z, E2, q1, q2, q3, q4, q5⟩ := landM_ok hk hS rfl rfl k1 k2 k3
   exact hg _ _ K E2 a' w' Q (forkT_imp (hr z q4 q5)) q1 q3 fun e T2 S2 E3 w2 a2 l0 l1 l2 l3 l4 => hQ e T2 S2 E3 w2 a2 l0 l1 (q2.trans l2) l3 (l4.trans k4)
  | exit id => exact hQ (.ok (.exit id)) _ _ E' w' a' hk k1 k2 k3 k4
  | goto l => exact hQ (.ok (.goto l)) _ _ E' w' a' hk k1 k2 k3 k4
  | ret => exact hQ (.ok .ret) _ _ E' w' a' hk k1 k2 k3 k4
theorem pcodeW_ok {X : Shapes} {R : Callee} {C : CCallee} {fs : FuncId → Bool} {J : InC} {ps : List Nat} (hm : P.follows .mixedOrders = true) (hR : CalleeOk P G R) (hC : ICalleeOk P G (lowC C)) (hJ : InOk P G fs J) (A : Anns) (m : List Bool) :
  ∀ (c : Code), POk P G N0 w0 I0 (pcodeW P idMk G X R C fs J ps A m c) c := by
 intro c
 have lift : ∀ c, POk P G N0 w0 I0 (pliftW (codeW P idMk G X R C A m c noLd)) c := fun c => pliftW_ok (codeW_ok hm hR hC A m c).2.2.2
 have no : ∀ c, POk P G N0 w0 I0 (fun _ _ _ => False) c := fun c T S K E a w Q h => h.elim
 induction c with
 | region id ops draw =>
  unfold pcodeW
  split
  case isFalse => exact lift _
  have nrm : ∀ {T : List AV} {S : St} {K : PK} {E : Env} {a : Act} {w : World} {Q : Exit → Act → World → Prop}, (∀ x T' S' E' w' a', K x T' S' → SR P G N0 w0 I0 S' E' w' → Env.Le E E' w w' → TR E' w' T' a'.tmps → a'.defers = a.defers → Q x.to a' w') → ∀ (x : PX) (T' : List AV) (S' : St) (E' : Env) (w' : World) (a' : Act), (match x with
    | .ok .normal => idMk (maskA m T') S' (K (.ok .normal))
    | x => K x (maskA m T') S') → SR P G N0 w0 I0 S' E' w' → Env.Le E E' w w' → TR E' w' T' a'.tmps → a'.defers = a.defers → Q x.to a' w' := by
   intro _ _ K E a w Q hQ x T' S' E' w' a' k0 k1 k2 k3 k4
   split at k0
   ·exact hQ (.ok .normal) _ _ E' w' a' k0 k1 k2 (k3.mask' m) k4
   ·exact hQ _ _ _ E' w' a' k0 k1 k2 (k3.mask' m) k4
  split
  ·rename_i hd
   subst hd
   intro T S K E a w Q h hS hT hQ
   exact drawW_ok hm hR hC hJ T S _ E a w Q h hS hT (nrm (T := T) (S := S) hQ)
  ·rename_i hd
   have hd' : draw = false := by simpa using hd
   subst hd'
   intro T S K E a w Q h hS hT hQ
   refine wp_region_list ?_
   have := plistW_wp (N0 := N0) (w0 := w0) (I0 := I0) hR hC hJ (Q := Q) (hS.roomFor ops.toList) hT h (nrm (T := T) (S := S) hQ)
   simpa using this
 | seq x y ihx ihy =>
  unfold pcodeW
  split
  case isFalse => exact lift _
  exact pcutW_ok ihx ihy
 | cond q x y ihx ihy =>
  unfold pcodeW
  split
  case isFalse => exact lift _
  intro T S K E a w Q h hS hT hQ
  have hc := evA_rep hS.glob hT q
  split at h
  ·rename_i he
   rw [he] at hc
   exact wp_cond (rep_bool hc) (by simpa using ihx _ _ _ E a w Q h hS hT hQ)
  ·rename_i he
   rw [he] at hc
   exact wp_cond (rep_bool hc) (by simpa using ihy _ _ _ E a w Q h hS hT hQ)
  ·exact h.elim
 | block id b ih =>
  unfold pcodeW
  split
  case isFalse => exact lift _
  exact pblockW_ok ih
 | loop b ih =>
  unfold pcodeW
  split
  case isFalse => exact lift _
  exact ploopW_ok ih
 | _ =>
  unfold pcodeW
  split
  ·exact no _
  ·exact lift _
end
structure PCfg where
 ps : List Nat
 A : Anns
 m : List Bool := []
def pfnW (P : Program) (mk : Mk) (G : Glob) (X : Shapes) (R : Callee) (C : CCallee) (fs : FuncId → Bool) (J : InC) (g : PCfg) (f : FuncId) (args : List AV) (S : St) (K : Option Value → AV → St → Prop) : Prop :=
 match P.funcs[f]? with
 | none => False
 | some fn =>
  match fn.body with
  | none => False
  | some c =>
   if fn.name == "runtime.NumGoroutine" then False else
   pcodeW P mk G X R C fs J g.ps g.A g.m c (args ++ List.replicate (fn.ntmps - args.length) (.tup [])) S fun x T S' =>
    match x with
    | .ok .normal | .ok .ret => someK (resultsA P T S' fn.results.toList) fun vs => K none (packA vs) S'
    | .pan v => K (some v) (.tup []) S'
    | _ => False
section
variable {P : Program} {G : Glob}
theorem pfnW_ok {X : Shapes} {R : Callee} {C : CCallee} {fs : FuncId → Bool} {J : InC} (hm : P.follows .mixedOrders = true) (hR : CalleeOk P G R) (hC : ICalleeOk P G (lowC C)) (hJ : InOk P G fs J) {g : PCfg} {f : FuncId} {args : List AV} {S : St} {K : Option Value → AV → St → Prop} (h : pfnW P idMk G X R C fs J g f args S K) :
  goodFn P f ∧ ∀ (N0 : Nat → Prop) (w0 : World) (I0 : Nat → Nat → Prop) (E : Env) (w : World) (vs : Array Value), SR P G N0 w0 I0 S E w → vs.size = args.length → (∀ (i : Nat) (c : AV) (v : Value), args[i]? = some c → vs[i]? = some v → Rep E w c v) →
   Calls P f vs w fun e w' => ∃ E' r S', SR P G N0 w0 I0 S' E' w' ∧ Env.Le E E' w w' ∧
    ((∃ v, e = .returned v ∧ K none r S' ∧ Rep E' w' r v) ∨ (∃ v, e = .panicked [{ v, recovered := false }] ∧ K (some v) r S')) := by
 unfold pfnW at h
 split at h
 ·exact h.elim
 ·rename_i fn hf
  split at h
  ·exact h.elim
  ·rename_i c hb
   split at h
   ·exact h.elim
   ·rename_i hname
    refine ⟨⟨fn, hf, by rw [hb]; rfl, by simpa using hname⟩, fun N0 w0 I0 E w vs hS hn hv => ?_⟩
    have hT0 : TR E w (args ++ List.replicate (fn.ntmps - args.length) (.tup [])) (vs ++ Array.replicate (fn.ntmps - vs.size) undef) := by
     refine ⟨by simp [hn], fun i c v hi hv' => ?_⟩
     by_cases hlt : i < args.length
     ·rw [List.getElem?_append_left hlt] at hi
      rw [Array.getElem?_append_left (by omega)] at hv'
      exact hv i c v hi hv'
     ·rw [List.getElem?_append_right (by omega), List.getElem?_replicate] at hi
      rw [Array.getElem?_append_right (by omega), Array.getElem?_replicate] at hv'
      split at hi
      ·split at hv'
       ·simp at hi hv'; subst hi; subst hv'
        exact rep_undef
       ·cases hv'
      ·cases hi
    refine calls_of_wp hf hb (pcodeW_ok (N0 := N0) (w0 := w0) (I0 := I0) hm hR hC hJ g.A g.m c _ _ _ E _ w _ h hS hT0 fun x T S1 E' w' a' hk h1 h2 h3 h4 => ?_)
    cases x with
    | pan v => exact ⟨h4, E', _, _, h1, h2, .inr ⟨v, rfl, hk⟩⟩
    | ok x =>
    cases x with
    | exit id => exact hk.elim
    | goto l => exact hk.elim
    | normal =>
     obtain ⟨us, hus, hK⟩ := someK_imp hk
     obtain ⟨v, hv, hrep⟩ := results_run h1 h3 hus
     exact ⟨h4, v, hv, E', _, _, h1, h2, .inl ⟨v, rfl, hK, hrep⟩⟩
    | ret =>
     obtain ⟨us, hus, hK⟩ := someK_imp hk
     obtain ⟨v, hv, hrep⟩ := results_run h1 h3 hus
     exact ⟨h4, v, hv, E', _, _, h1, h2, .inl ⟨v, rfl, hK, hrep⟩⟩
def inW (P : Program) (mk : Mk) (G : Glob) (X : Shapes) (R : Callee) (C : CCallee) (fs : FuncId → Bool) (cf : FuncId → List AV → PCfg) : Nat → InC
 | 0 => fun _ _ _ _ => False
 | n + 1 => fun f args S K => pfnW P mk G X R C fs (inW P mk G X R C fs cf n) (cf f args) f args S K
theorem inW_ok {X : Shapes} {R : Callee} {C : CCallee} {fs : FuncId → Bool} {cf : FuncId → List AV → PCfg} (hm : P.follows .mixedOrders = true) (hR : CalleeOk P G R) (hC : ICalleeOk P G (lowC C)) : ∀ n, InOk P G fs (inW P idMk G X R C fs cf n)
 | 0 => fun _ _ _ _ _ h => h.elim
 | n + 1 => fun _ _ _ _ _ h => pfnW_ok hm hR hC (inW_ok hm hR hC n) h
end
def notIface (P : Program) (t : TypeId) : Bool :=
 match P.underlying t with
 | some (.interface _) => false
 | some _ => true
 | none => false
def assertA (P : Program) (ρ : Operand → AV) : Op → Option AV
 | .typeAssert x _ t true =>
  if notIface P t then
   match ρ x with
   | .lit .nilIface => (zeroA P t).map fun z => .tup [absV z, .bool false]
   | .lit (.iface t' v) => if t' = t then (ofV v).map fun r => .tup [r, .bool true] else (zeroA P t).map fun z => .tup [absV z, .bool false]
   | _ => none
  else none
 | _ => none
def isRec : Op → Bool
 | .call c =>
  match c.callee, c.args.toList with
  | .builtin .recover, [] => true
  | _, _ => false
 | _ => false
section
variable {P : Program} {G : Glob} {N0 : Nat → Prop} {w0 : World} {I0 : Nat → Nat → Prop}
theorem rep_two {E : Env} {w : World} {a : AV} {v : Value} {b : Bool} (h : Rep E w a v) : Rep E w (.tup [a, .bool b]) (.tuple #[v, .bool b]) := by
 refine .tup _ _ rfl fun i c u hc hu => ?_
 match i, hc, hu with
 | 0, hc, hu => simp at hc hu; subst hc; subst hu; exact h
 | 1, hc, hu => simp at hc hu; subst hc; subst hu; exact .bool b
 | i + 2, hc, hu => simp at hc
theorem assertA_run {T : List AV} {a : Act} {E : Env} {w : World} {o : Oper} {S : St} {r : AV} (hS : SR P G N0 w0 I0 S E w) (hT : TR E w T a.tmps) (h : assertA P (evA G T) o.op = some r) :
  ∃ v, (execOp a.eval o).run P w = .ok (.value v) w ∧ Rep E w r v := by
 obtain ⟨dst, op, type, pos, after, guard⟩ := o
 simp only at h
 unfold assertA at h
 split at h
 case h_2 => cases h
 rename_i x t0 t
 split at h
 case isFalse => cases h
 rename_i hn
 have hr := evA_rep hS.glob hT x
 have hu : ∃ u, P.underlying t = some u ∧ ∀ ms, u ≠ .interface ms := by
  unfold notIface at hn
  cases hq : P.underlying t with
  | none => simp [hq] at hn
  | some u => exact ⟨u, rfl, fun ms h => by subst h; simp [hq] at hn⟩
 obtain ⟨u, hu, hne⟩ := hu
 have key : ∀ (x : Value) (r : Value), (match x with | .nilIface => ∃ z, zeroA P t = some z ∧ r = .tuple #[z, .bool false] | .iface t' v => if t' = t then r = .tuple #[v, .bool true] else ∃ z, zeroA P t = some z ∧ r = .tuple #[z, .bool false] | _ => False) → (Instr.typeAssert x t0 t true).run P w = .ok r w := by
  intro x r hx
  unfold Instr.typeAssert
  cases x <;> simp only at hx
  case nilIface =>
   obtain ⟨z, hz, rfl⟩ := hx
   cases u <;> first | exact absurd rfl (hne _) | simp [run_underlying hu, run_zero hz]
  case iface t' v =>
   split at hx
   ·rename_i e
    subst hx
    cases u <;> first | exact absurd rfl (hne _) | simp [run_underlying hu, e]
   ·rename_i e
    obtain ⟨z, hz, rfl⟩ := hx
    cases u <;> first | exact absurd rfl (hne _) | simp [run_underlying hu, e, run_zero hz]
 split at h
 ·rename_i he
  rw [he] at hr
  have hx := rep_lit hr
  rw [Option.map_eq_some_iff] at h
  obtain ⟨z, hz, rfl⟩ := h
  exact ⟨_, run_v (key _ _ (by rw [hx]; exact ⟨z, hz, rfl⟩)), rep_two (absV_rep z)⟩
 ·rename_i t' v he
  rw [he] at hr
  have hx := rep_lit hr
  split at h
  ·rename_i e
   rw [Option.map_eq_some_iff] at h
   obtain ⟨z, hz, rfl⟩ := h
   exact ⟨_, run_v (key _ _ (by rw [hx]; simp only [e, if_true])), rep_two (ofV_rep hz)⟩
  ·rename_i e
   rw [Option.map_eq_some_iff] at h
   obtain ⟨z, hz, rfl⟩ := h
   exact ⟨_, run_v (key _ _ (by rw [hx]; simp only [if_neg e]; exact ⟨z, hz, rfl⟩)), rep_two (absV_rep z)⟩
 ·cases h
end
def recW (P : Program) (G : Glob) (X : Shapes) (R : Callee) (C : CCallee) (ops : List Oper) : List Oper → Nat → List AV → St → (List AV → St → Prop) → Prop
 | [], _, T, S, K => K T S
 | o :: l, bid, T, S, K =>
  match guardA ops T o with
  | some true =>
   match assertA P (evA G T) o.op with
   | some r => recW P G X R C ops l (nextBid o bid) (putA T o.dst r) S K
   | none => stepW P G X R C ops bid o T S fun r S' => recW P G X R C ops l (nextBid o bid) (putA T o.dst r) S' K
  | _ => stepW P G X R C ops bid o T S fun r S' => recW P G X R C ops l (nextBid o bid) (putA T o.dst r) S' K
def recRv : Option Value → AV
 | some v => .lit v
 | none => .lit .nilIface
def modeOf : Option Value → FrameMode
 | some v => .panicking [{ v, recovered := false }]
 | none => .returning
def modeAft : Option Value → FrameMode
 | some v => .panicking [{ v, recovered := true }]
 | none => .returning
section
variable {P : Program} {G : Glob} {N0 : Nat → Prop} {w0 : World} {I0 : Nat → Nat → Prop}
theorem isRec_run {o : Oper} {a : Act} {w : World} (h : isRec o.op = true) : (execOp a.eval o).run P w = .ok .recover w := by
 obtain ⟨dst, op, type, pos, after, guard⟩ := o
 simp only at h
 unfold isRec at h
 split at h
 ·rename_i c
  obtain ⟨callee, args, argTypes⟩ := c
  simp only at h
  split at h
  ·rename_i ha
   obtain rfl : args = #[] := by rw [← Array.toArray_toList (xs := args), ha]
   simp [execOp, resolve, invoke, builtin]
  ·cases h
 ·cases h
def wpListS (P : Program) (ops : Array Oper) (Q : Exit → Act → List Frame → World → Prop) : List Oper → Act → List Frame → World → Prop
 | [], a, cs, w => Q .normal a cs w
 | o :: rest, a, cs, w =>
  if Region.wanted o (yielded ops a.tmps) then
   match (execOp a.eval o).run P w with
   | .ok .recover w' =>
    match recoverD cs with
    | some (v, cs') => wpListS P ops Q rest (a.put o.dst v) cs' w'
    | none => wpListS P ops Q rest (a.put o.dst .nilIface) cs w'
   | r => o.upon P a (fun a' w' => wpListS P ops Q rest a' cs w') (fun e a' w' => Q e a' cs w') r
  else wpListS P ops Q rest (a.put o.dst undef) cs w
theorem wpOpsS_eq {ops : Array Oper} {Q : Exit → Act → List Frame → World → Prop} (l : List Oper) : ∀ k, (∀ j, l[j]? = ops[k + j]?) → wpOpsS P ops Q (List.range' k l.length) = wpListS P ops Q l := by
 induction l with
 | nil => intro k _; funext a cs w; simp [wpOpsS, wpListS]
 | cons o l ih =>
  intro k h
  have h0 : ops[k]? = some o := by have := h 0; simpa using this.symm
  have hr := ih (k + 1) fun j => by have := h (j + 1); simp only [List.getElem?_cons_succ] at this; rw [this]; congr 1; omega
  funext a cs w
  simp only [List.length_cons, List.range'_succ, wpOpsS, wpListS, h0, hr]
  rfl
theorem wpS_region_list {id : Nat} {ops : Array Oper} {Q : Exit → Act → List Frame → World → Prop} {a : Act} {cs : List Frame} {w : World} (h : wpListS P ops Q ops.toList a cs w) : (Code.region id ops false).wpS P Q a cs w := by
 refine wpS_region ?_
 have := wpOpsS_eq (P := P) (Q := Q) (ops := ops) ops.toList 0 (fun j => by simp)
 rw [List.range_eq_range']
 rw [show ops.size = ops.toList.length by simp, this]
 exact h
theorem upon_S {o : Oper} {a : Act} {cs : List Frame} {w : World} {ops : Array Oper} {Q : Exit → Act → List Frame → World → Prop} {l : List Oper} (hw : Region.wanted o (yielded ops a.tmps) = true)
  (h : o.wp P a w (fun a' w' => wpListS P ops Q l a' cs w') (fun e a' w' => Q e a' cs w')) : wpListS P ops Q (o :: l) a cs w := by
 simp only [wpListS, hw, if_true]
 unfold Oper.wp at h
 split
 ·rename_i hr
  rw [hr] at h
  exact h.elim
 ·exact h
theorem recW_wp {X : Shapes} {R : Callee} {C : CCallee} (hR : CalleeOk P G R) (hC : ICalleeOk P G (lowC C)) {ops : List Oper} {Q : Exit → Act → List Frame → World → Prop} {cs : List Frame} : ∀ {l : List Oper} {bid : Nat} {T : List AV} {S : St} {K : List AV → St → Prop} {E : Env} {a : Act} {w : World},
  SR P G N0 w0 I0 S E w → TR E w T a.tmps → recW P G X R C ops l bid T S K →
  (∀ T' S' E' w' a', K T' S' → SR P G N0 w0 I0 S' E' w' → Env.Le E E' w w' → TR E' w' T' a'.tmps → a'.defers = a.defers → Q .normal a' cs w') → wpListS P ops.toArray Q l a cs w
 | [], _, T, S, K, E, a, w, hS, hT, h, hQ => hQ T S E w a h hS (Env.Le.refl _ _) hT rfl
 | o :: l, bid, T, S, K, E, a, w, hS, hT, h, hQ => by
  have step : (stepW P G X R C ops bid o T S fun r S' => recW P G X R C ops l (nextBid o bid) (putA T o.dst r) S' K) → wpListS P ops.toArray Q (o :: l) a cs w := fun h => by
   obtain ⟨r, S1, hs, hk⟩ := stepW_imp h
   unfold stepA at hs
   split at hs
   ·rename_i hg
    have hw := guardA_run hg hT.1 (fun j want t c v _ _ hc hv => hT.2 t c v hc hv)
    refine upon_S hw (op_wp hR hC hS hT hs fun E' w' v h1 h2 h3 => ?_)
    exact recW_wp hR hC h1 ((hT.le h2).putA o.dst h3) hk fun T2 S2 E2 w2 a2 k0 k1 k2 k3 k4 => hQ T2 S2 E2 w2 a2 k0 k1 (h2.trans k2) k3 (k4.trans (put_defers _ _ _))
   ·rename_i hg
    have hw := guardA_run hg hT.1 (fun j want t c v _ _ hc hv => hT.2 t c v hc hv)
    simp only [wpListS, hw, Bool.false_eq_true, if_false]
    simp at hs
    obtain ⟨rfl, rfl⟩ := hs
    exact recW_wp hR hC hS (hT.putA o.dst rep_undef) hk fun T2 S2 E2 w2 a2 k0 k1 k2 k3 k4 => hQ T2 S2 E2 w2 a2 k0 k1 k2 k3 (k4.trans (put_defers _ _ _))
   ·cases hs
  simp only [recW] at h
  split at h
  ·rename_i hg
   have hw := guardA_run hg hT.1 (fun j want t c v _ _ hc hv => hT.2 t c v hc hv)
   split at h
   ·rename_i r hr
    obtain ⟨v, hrun, hrep⟩ := assertA_run hS hT hr
    refine upon_S hw (wp_value hrun ?_)
    exact recW_wp hR hC hS (hT.putA o.dst hrep) h fun T2 S2 E2 w2 a2 k0 k1 k2 k3 k4 => hQ T2 S2 E2 w2 a2 k0 k1 k2 k3 (k4.trans (put_defers _ _ _))
   ·exact step h
  ·exact step h
end
def defW (P : Program) (mk : Mk) (G : Glob) (X : Shapes) (R : Callee) (C : CCallee) (A : Anns) (m : List Bool) (f : FuncId) (p : Option Value) (args : List AV) (S : St) (K : St → Prop) : Prop :=
 match P.funcs[f]? with
 | none => False
 | some fn =>
  match fn.body with
  | some (.seq (.region _ ops false) rest) =>
   match ops.toList with
   | o :: l =>
    if isRec o.op && o.guard.isNone && (fn.name == "runtime.NumGoroutine") == false then
     recW P G X R C (o :: l) l (nextBid o S.boxes.length) (putA (args ++ List.replicate (fn.ntmps - args.length) (.tup [])) o.dst (recRv p)) (roomFor (o :: l) S) fun T S1 =>
      codeW P mk G X R C A m rest noLd (maskA m T) S1 fun x T S' =>
       match x with
       | .normal | .ret => someK (resultsA P T S' fn.results.toList) fun _ => K S'
       | _ => False
    else False
   | [] => False
  | _ => False
section
variable {P : Program} {G : Glob}
theorem defW_ok {X : Shapes} {R : Callee} {C : CCallee} (hm : P.follows .mixedOrders = true) (hR : CalleeOk P G R) (hC : ICalleeOk P G (lowC C)) {A : Anns} {m : List Bool} {f : FuncId} {p : Option Value} (hp : ∀ v, p = some v → litOk v = true) {args : List AV} {S : St} {K : St → Prop} (h : defW P idMk G X R C A m f p args S K) :
  goodFn P f ∧ ∀ (N0 : Nat → Prop) (w0 : World) (I0 : Nat → Nat → Prop) (E : Env) (w : World) (vs : Array Value), SR P G N0 w0 I0 S E w → vs.size = args.length → (∀ (i : Nat) (c : AV) (v : Value), args[i]? = some c → vs[i]? = some v → Rep E w c v) →
   CallsD P f vs (modeOf p) w fun e u' w' => ∃ v E' S', e = .returned v ∧ u' = modeAft p ∧ K S' ∧ SR P G N0 w0 I0 S' E' w' ∧ Env.Le E E' w w' := by
 unfold defW at h
 split at h
 ·exact h.elim
 rename_i fn hf
 split at h
 case h_2 => exact h.elim
 rename_i id ops rest hb
 split at h
 case h_2 => exact h.elim
 rename_i o l ho
 split at h
 case isFalse => exact h.elim
 rename_i hc
 simp only [Bool.and_eq_true] at hc
 obtain ⟨⟨hrec, hgn⟩, hname⟩ := hc
 refine ⟨⟨fn, hf, by rw [hb]; rfl, by simpa using hname⟩, fun N0 w0 I0 E w vs hS hn hv => ?_⟩
 have hT0 : TR E w (args ++ List.replicate (fn.ntmps - args.length) (.tup [])) (vs ++ Array.replicate (fn.ntmps - vs.size) undef) := by
  refine ⟨by simp [hn], fun i c v hi hv' => ?_⟩
  by_cases hlt : i < args.length
  ·rw [List.getElem?_append_left hlt] at hi
   rw [Array.getElem?_append_left (by omega)] at hv'
   exact hv i c v hi hv'
  ·rw [List.getElem?_append_right (by omega), List.getElem?_replicate] at hi
   rw [Array.getElem?_append_right (by omega), Array.getElem?_replicate] at hv'
   split at hi
   ·split at hv'
    ·simp at hi hv'; subst hi; subst hv'
     exact rep_undef
    ·cases hv'
   ·cases hi
 refine callsD_of_wpS hf hb fun c0 cs hu => ?_
 refine wpS_seq (wpS_region_list ?_)
 rw [ho]
 have hops : ops = (o :: l).toArray := by rw [← ho]
 rw [hops]
 have hw : Region.wanted o (yielded (o :: l).toArray (vs ++ Array.replicate (fn.ntmps - vs.size) undef)) = true := by
  have : o.guard = none := by simpa using hgn
  simp [Region.wanted, this]
 have hrun := isRec_run (P := P) (a := { tmps := vs ++ Array.replicate (fn.ntmps - vs.size) undef, defers := [] }) (w := w) hrec
 simp only [wpListS, hw, if_true, hrun]
 have fin : ∀ (v : Value) (cs' : List Frame), Rep E w (recRv p) v → cs' = { c0 with mode := modeAft p } :: cs → wpListS P (o :: l).toArray (Exit.thenS (rest.wpS P (bodyPostS P fn c0 cs fun e u' w' => ∃ v E' S', e = .returned v ∧ u' = modeAft p ∧ K S' ∧ SR P G N0 w0 I0 S' E' w' ∧ Env.Le E E' w w')) (bodyPostS P fn c0 cs fun e u' w' => ∃ v E' S', e = .returned v ∧ u' = modeAft p ∧ K S' ∧ SR P G N0 w0 I0 S' E' w' ∧ Env.Le E E' w w')) l (Act.put { tmps := vs ++ Array.replicate (fn.ntmps - vs.size) undef, defers := [] } o.dst v) cs' w := by
  intro v cs' hr hcs
  subst hcs
  refine recW_wp hR hC (hS.roomFor (o :: l)) (hT0.putA o.dst hr) h fun T' S' E' w' a' hk h1 h2 h3 h4 => ?_
  refine wpS_of_wp ((codeW_ok (N0 := N0) (w0 := w0) (I0 := I0) hm hR hC A m rest).2.2.2 _ _ _ E' a' w' _ hk h1 (h3.mask' m) fun x T2 S2 E2 w2 a2 hk2 k1 k2 k3 k4 => ?_)
  have hd : a2.defers = [] := k4.trans (h4.trans (put_defers _ _ _))
  cases x with
  | exit id => exact hk2.elim
  | goto l => exact hk2.elim
  | normal =>
   obtain ⟨us, hus, hK⟩ := someK_imp hk2
   obtain ⟨v, hv, _⟩ := results_run k1 k3 hus
   exact ⟨hd, modeAft p, rfl, v, hv, v, E2, S2, rfl, rfl, hK, k1, h2.trans k2⟩
  | ret =>
   obtain ⟨us, hus, hK⟩ := someK_imp hk2
   obtain ⟨v, hv, _⟩ := results_run k1 k3 hus
   exact ⟨hd, modeAft p, rfl, v, hv, v, E2, S2, rfl, rfl, hK, k1, h2.trans k2⟩
 cases p with
 | none =>
  have hrc : recoverD (c0 :: cs) = none := by simp [recoverD, hu, modeOf]
  rw [hrc]
  refine fin .nilIface (c0 :: cs) (.lit _ rfl) ?_
  have : ({ c0 with mode := modeAft none } : Frame) = c0 := by rw [show modeAft none = c0.mode from hu.symm]
  rw [this]
 | some v =>
  have hrc : recoverD (c0 :: cs) = some (v, { c0 with mode := modeAft (some v) } :: cs) := by simp [recoverD, hu, modeOf, modeAft]
  rw [hrc]
  exact fin v _ (.lit _ (hp v rfl)) rfl
end
abbrev DfL := List (FuncId × List AV)
abbrev DK := PX → DfL → List AV → St → Prop
abbrev DStep := List AV → St → DK → Prop
def defOp (ρ : Operand → AV) : Op → Option (FuncId × List AV)
 | .defer c =>
  match c.callee, c.args.toList with
  | .value x, [] =>
   match ρ x with
   | .fn g cap => some (g, cap)
   | _ => none
  | _, _ => none
 | _ => none
def dfrW (P : Program) (G : Glob) (X : Shapes) (R : Callee) (C : CCallee) (ops : List Oper) : List Oper → Nat → DfL → List AV → St → (DfL → List AV → St → Prop) → Prop
 | [], _, ds, T, S, K => K ds T S
 | o :: l, bid, ds, T, S, K =>
  match guardA ops T o with
  | some true =>
   match defOp (evA G T) o.op with
   | some d => dfrW P G X R C ops l (nextBid o bid) (d :: ds) (putA T o.dst (.tup [])) S K
   | none => stepWl P G X R C ops bid o T S fun r S' => dfrW P G X R C ops l (nextBid o bid) ds (putA T o.dst r) S' K
  | _ => stepWl P G X R C ops bid o T S fun r S' => dfrW P G X R C ops l (nextBid o bid) ds (putA T o.dst r) S' K
def DR (E : Env) (w : World) : DfL → List Deferred → Prop
 | [], [] => True
 | d :: l, x :: m => (∃ vs : Array Value, x = { target := .fn (.func d.1) vs, args := #[] } ∧ vs.size = d.2.length ∧ ∀ (i : Nat) (c : AV) (v : Value), d.2[i]? = some c → vs[i]? = some v → Rep E w c v) ∧ DR E w l m
 | _, _ => False
theorem DR.le {E E' : Env} {w w' : World} (hl : Env.Le E E' w w') : ∀ {ds : DfL} {m : List Deferred}, DR E w ds m → DR E' w' ds m
 | [], [], _ => trivial
 | [], _ :: _, h => h.elim
 | _ :: _, [], h => h.elim
 | d :: l, x :: m, h => by
  obtain ⟨⟨vs, h1, h2, h3⟩, h4⟩ := h
  exact ⟨⟨vs, h1, h2, fun i c v hc hv => (h3 i c v hc hv).le hl⟩, h4.le hl⟩
def DPOk (P : Program) (G : Glob) (N0 : Nat → Prop) (w0 : World) (I0 : Nat → Nat → Prop) (f : DStep) (c : Code) : Prop :=
 ∀ (T : List AV) (S : St) (K : DK) (E : Env) (a : Act) (w : World) (Q : Exit → Act → World → Prop), f T S K → SR P G N0 w0 I0 S E w → TR E w T a.tmps → a.defers = [] →
  (∀ x ds T' S' E' w' a', K x ds T' S' → SR P G N0 w0 I0 S' E' w' → Env.Le E E' w w' → TR E' w' T' a'.tmps → DR E' w' ds a'.defers → Q x.to a' w') → c.wp P Q a w
def dcodeW (P : Program) (mk : Mk) (G : Glob) (X : Shapes) (R : Callee) (C : CCallee) (fs : FuncId → Bool) (J : InC) (ps : List Nat) (A : Anns) (m : List Bool) (dr : Nat) : Code → DStep
 | .seq (.region id ops false) b =>
  if id = dr then fun T S K =>
   dfrW P G X R C ops.toList ops.toList S.boxes.length [] T (roomFor ops.toList S) fun ds T' S' => pcodeW P mk G X R C fs J ps A m b (maskA m T') S' fun x T S => K x ds T S
  else fun T S K => pcodeW P mk G X R C fs J ps A m (.region id ops false) T S fun x T' S' =>
   match x with
   | .ok .normal => dcodeW P mk G X R C fs J ps A m dr b T' S' K
   | x => K x [] T' S'
 | .seq a b => fun T S K =>
  match A.loop (cutAt (firstReg b)) with
  | none => pcodeW P mk G X R C fs J ps A m a T S fun x T' S' =>
   match x with
   | .ok .normal => dcodeW P mk G X R C fs J ps A m dr b T' S' K
   | x => K x [] T' S'
  | some an => (pcodeW P mk G X R C fs J ps A m a T S fun x T' S' =>
    match x with
    | .ok .normal => landM P S.boxes.length S.live.length T.length an T' S' (an.rel T)
    | x => K x [] T' S') ∧
   ∀ x, an.I x → an.rel T x → forkT an.bools (headT T.length an.slots (an.vals x)) fun T' => mk T' (an.sS x) fun T' S0 => dcodeW P mk G X R C fs J ps A m dr b T' S0 K
 | c => fun T S K => pcodeW P mk G X R C fs J ps A m c T S fun x T' S' => K x [] T' S'
section
variable {P : Program} {G : Glob} {N0 : Nat → Prop} {w0 : World} {I0 : Nat → Nat → Prop}
theorem defOp_run {T : List AV} {a : Act} {E : Env} {w : World} {o : Oper} {S : St} {d : FuncId × List AV} (hS : SR P G N0 w0 I0 S E w) (hT : TR E w T a.tmps) (h : defOp (evA G T) o.op = some d) :
  ∃ vs : Array Value, (execOp a.eval o).run P w = .ok (.defer { target := .fn (.func d.1) vs, args := #[] }) w ∧ vs.size = d.2.length ∧ ∀ (i : Nat) (c : AV) (v : Value), d.2[i]? = some c → vs[i]? = some v → Rep E w c v := by
 obtain ⟨dst, op, type, pos, after, guard⟩ := o
 simp only at h
 unfold defOp at h
 split at h
 ·rename_i c
  obtain ⟨callee, args, argTypes⟩ := c
  simp only at h
  split at h
  ·rename_i x ha
   have hf := evA_rep hS.glob hT x
   split at h
   ·rename_i g cap he
    rw [he] at hf
    obtain ⟨caps, hfv, hcn, hcr⟩ := rep_fn hf
    simp only [Option.some.injEq] at h
    subst h
    obtain rfl : args = #[] := by rw [← Array.toArray_toList (xs := args), ha]
    exact ⟨caps, by simp [execOp, resolve, hfv, Deferred.ofValue], hcn, hcr⟩
   ·cases h
  ·cases h
 ·cases h
theorem dfrW_wp {X : Shapes} {R : Callee} {C : CCallee} (hR : CalleeOk P G R) (hC : ICalleeOk P G (lowC C)) {ops : List Oper} {Q : Exit → Act → World → Prop} : ∀ {l : List Oper} {bid : Nat} {ds : DfL} {T : List AV} {S : St} {K : DfL → List AV → St → Prop} {E : Env} {a : Act} {w : World},
  SR P G N0 w0 I0 S E w → TR E w T a.tmps → DR E w ds a.defers → dfrW P G X R C ops l bid ds T S K →
  (∀ ds' T' S' E' w' a', K ds' T' S' → SR P G N0 w0 I0 S' E' w' → Env.Le E E' w w' → TR E' w' T' a'.tmps → DR E' w' ds' a'.defers → Q .normal a' w') → wpList P ops.toArray Q l a w
 | [], _, ds, T, S, K, E, a, w, hS, hT, hD, h, hQ => hQ ds T S E w a h hS (Env.Le.refl _ _) hT hD
 | o :: l, bid, ds, T, S, K, E, a, w, hS, hT, hD, h, hQ => by
  have step : (stepWl P G X R C ops bid o T S fun r S' => dfrW P G X R C ops l (nextBid o bid) ds (putA T o.dst r) S' K) → wpList P ops.toArray Q (o :: l) a w := fun h => by
   refine step_wp hR hC hS hT h fun E' w' v r S' hk h1 h2 h3 => ?_
   exact dfrW_wp hR hC h1 ((hT.le h2).putA o.dst h3) (by rw [put_defers]; exact hD.le h2) hk fun ds' T2 S2 E2 w2 a2 k0 k1 k2 k3 k4 => hQ ds' T2 S2 E2 w2 a2 k0 k1 (h2.trans k2) k3 k4
  simp only [dfrW] at h
  split at h
  ·rename_i hg
   have hw := guardA_run hg hT.1 (fun j want t c v _ _ hc hv => hT.2 t c v hc hv)
   split at h
   ·rename_i d hd
    obtain ⟨vs, hrun, hn, hv⟩ := defOp_run hS hT hd
    simp only [wpList, hw, if_true]
    refine .inl ?_
    unfold Oper.wp
    rw [hrun]
    show wpList P ops.toArray Q l (Act.put { a with defers := { target := .fn (.func d.1) vs, args := #[] } :: a.defers } o.dst undef) w
    exact dfrW_wp hR hC hS (TR.putA (a := { a with defers := { target := .fn (.func d.1) vs, args := #[] } :: a.defers }) hT o.dst rep_undef) (by rw [put_defers]; exact ⟨⟨vs, rfl, hn, hv⟩, hD⟩) h fun ds' T2 S2 E2 w2 a2 k0 k1 k2 k3 k4 => hQ ds' T2 S2 E2 w2 a2 k0 k1 k2 k3 k4
   ·exact step h
  ·exact step h
theorem dcodeW_ok {X : Shapes} {R : Callee} {C : CCallee} {fs : FuncId → Bool} {J : InC} {ps : List Nat} (hm : P.follows .mixedOrders = true) (hR : CalleeOk P G R) (hC : ICalleeOk P G (lowC C)) (hJ : InOk P G fs J) (A : Anns) (m : List Bool) (dr : Nat) :
  ∀ (c : Code), DPOk P G N0 w0 I0 (dcodeW P idMk G X R C fs J ps A m dr c) c := by
 intro c
 have base : ∀ c, DPOk P G N0 w0 I0 (fun T S K => pcodeW P idMk G X R C fs J ps A m c T S fun x T' S' => K x [] T' S') c := fun c T S K E a w Q h hS hT hd hQ =>
  pcodeW_ok hm hR hC hJ A m c T S _ E a w Q h hS hT fun x T' S' E' w' a' k0 k1 k2 k3 k4 => hQ x [] T' S' E' w' a' k0 k1 k2 k3 (by rw [k4, hd]; trivial)
 have two : ∀ a b, DPOk P G N0 w0 I0 (dcodeW P idMk G X R C fs J ps A m dr b) b → DPOk P G N0 w0 I0 (fun T S K => pcodeW P idMk G X R C fs J ps A m a T S fun x T' S' =>
   match x with
   | .ok .normal => dcodeW P idMk G X R C fs J ps A m dr b T' S' K
   | x => K x [] T' S') (.seq a b) := fun ca cb ihb T S K E a w Q h hS hT hd hQ => by
  refine wp_seq (pcodeW_ok hm hR hC hJ A m ca T S _ E a w _ h hS hT fun x T' S' E' w' a' hk k1 k2 k3 k4 => ?_)
  have hd' : a'.defers = [] := k4.trans hd
  cases x with
  | pan v => exact hQ (.pan v) [] _ _ E' w' a' hk k1 k2 k3 (by rw [hd']; trivial)
  | ok x =>
  cases x with
  | normal => exact ihb T' S' K E' a' w' Q hk k1 k3 hd' fun x ds T2 S2 E2 w2 a2 l0 l1 l2 l3 l4 => hQ x ds T2 S2 E2 w2 a2 l0 l1 (k2.trans l2) l3 l4
  | exit id => exact hQ (.ok (.exit id)) [] _ _ E' w' a' hk k1 k2 k3 (by rw [hd']; trivial)
  | goto l => exact hQ (.ok (.goto l)) [] _ _ E' w' a' hk k1 k2 k3 (by rw [hd']; trivial)
  | ret => exact hQ (.ok .ret) [] _ _ E' w' a' hk k1 k2 k3 (by rw [hd']; trivial)
 induction c with
 | seq ca cb _ ihb =>
  unfold dcodeW
  split
  ·rename_i id ops b heq
   injection heq with e1 e2
   subst e1; subst e2
   split
   ·intro T S K E a w Q h hS hT hd hQ
    refine wp_seq (wp_region_list ?_)
    have := dfrW_wp (N0 := N0) (w0 := w0) (I0 := I0) hR hC (Q := Exit.then (cb.wp P Q) Q) (hS.roomFor ops.toList) hT (by rw [hd]; trivial) h fun ds T' S' E' w' a' k0 k1 k2 k3 k4 =>
     pcodeW_ok (N0 := N0) (w0 := w0) (I0 := I0) hm hR hC hJ A m cb _ _ _ E' a' w' Q k0 k1 (k3.mask' m) fun x T2 S2 E2 w2 a2 l0 l1 l2 l3 l4 => hQ x ds T2 S2 E2 w2 a2 l0 l1 (k2.trans l2) l3 (by rw [l4]; exact k4.le l2)
    simpa using this
   ·exact two _ _ ihb
  ·rename_i a b heq
   injection heq with e1 e2
   subst e1; subst e2
   intro T S K E a w Q h hS hT hd hQ
   split at h
   ·exact two _ _ ihb T S K E a w Q h hS hT hd hQ
   ·rename_i an _
    obtain ⟨h0, hr⟩ := h
    refine wp_seq (pcodeW_ok hm hR hC hJ A m _ T S _ E a w _ h0 hS hT fun x T' S' E' w' a' hk k1 k2 k3 k4 => ?_)
    have hd' : a'.defers = [] := k4.trans hd
    cases x with
    | pan v => exact hQ (.pan v) [] _ _ E' w' a' hk k1 k2 k3 (by rw [hd']; trivial)
    | ok x =>
    cases x with
    | normal =>
     obtain ⟨z, E2, q1, q2, q3, q4, q5⟩ := landM_ok hk hS rfl rfl k1 k2 k3
     exact ihb _ _ K E2 a' w' Q (forkT_imp (hr z q4 q5)) q1 q3 hd' fun x ds T2 S2 E3 w2 a2 l0 l1 l2 l3 l4 => hQ x ds T2 S2 E3 w2 a2 l0 l1 (q2.trans l2) l3 l4
    | exit id => exact hQ (.ok (.exit id)) [] _ _ E' w' a' hk k1 k2 k3 (by rw [hd']; trivial)
    | goto l => exact hQ (.ok (.goto l)) [] _ _ E' w' a' hk k1 k2 k3 (by rw [hd']; trivial)
    | ret => exact hQ (.ok .ret) [] _ _ E' w' a' hk k1 k2 k3 (by rw [hd']; trivial)
  ·rename_i h1 h2
   exact absurd rfl (h2 _ _)
 | _ => exact base _
end
def leaveW (P : Program) (mk : Mk) (G : Glob) (X : Shapes) (R : Callee) (C : CCallee) (A : Anns) (m : List Bool) (fn : Func) (p : Option Value) (ds : DfL) (T : List AV) (S : St) (K : AV → St → Prop) : Prop :=
 match ds, p with
 | [], none => someK (resultsA P T S fn.results.toList) fun vs => K (packA vs) S
 | [(g, cap)], p => (p.all litOk = true) ∧ defW P mk G X R C A m g p cap S fun S' => someK (resultsA P T S' fn.results.toList) fun vs => K (packA vs) S'
 | _, _ => False
structure TCfg extends PCfg where
 dr : Nat
 AD : Anns := ⟨fun _ => none, fun _ => none⟩
 mD : List Bool := []
def tfnW (P : Program) (mk : Mk) (G : Glob) (X : Shapes) (R : Callee) (C : CCallee) (fs : FuncId → Bool) (J : InC) (g : TCfg) (f : FuncId) (args : List AV) (S : St) (K : AV → St → Prop) : Prop :=
 match P.funcs[f]? with
 | none => False
 | some fn =>
  match fn.body with
  | none => False
  | some c =>
   if fn.name == "runtime.NumGoroutine" then False else
   dcodeW P mk G X R C fs J g.ps g.A g.m g.dr c (args ++ List.replicate (fn.ntmps - args.length) (.tup [])) S fun x ds T S' =>
    match x with
    | .ok .normal | .ok .ret => leaveW P mk G X R C g.AD g.mD fn none ds T S' K
    | .pan v => leaveW P mk G X R C g.AD g.mD fn (some v) ds T S' K
    | _ => False
section
variable {P : Program} {G : Glob} {N0 : Nat → Prop} {w0 : World} {I0 : Nat → Nat → Prop}
theorem settle_aft (p : Option Value) : settle (modeAft p) = .returning := by cases p <;> rfl
theorem leaveW_ok {X : Shapes} {R : Callee} {C : CCallee} (hm : P.follows .mixedOrders = true) (hR : CalleeOk P G R) (hC : ICalleeOk P G (lowC C)) {A : Anns} {m : List Bool} {fn : Func} {p : Option Value} {ds : DfL} {T : List AV} {S : St} {K : AV → St → Prop} (h : leaveW P idMk G X R C A m fn p ds T S K)
  {E E0 : Env} {w wb : World} {tm : Array Value} {df : List Deferred} (hS : SR P G N0 w0 I0 S E w) (hL : Env.Le E0 E wb w) (hT : TR E w T tm) (hD : DR E w ds df) :
  Leaves P fn tm (fun e w' => ∃ v E' r S', e = .returned v ∧ K r S' ∧ SR P G N0 w0 I0 S' E' w' ∧ Env.Le E0 E' wb w' ∧ Rep E' w' r v) df (modeOf p) w := by
 unfold leaveW at h
 split at h
 ·match df, hD with
  | [], _ =>
   obtain ⟨us, hus, hK⟩ := someK_imp h
   obtain ⟨v, hv, hrep⟩ := results_run hS hT hus
   exact ⟨v, hv, v, E, _, _, rfl, hK, hS, hL, hrep⟩
 ·rename_i _ g cap
  match df, hD with
  | [x], ⟨⟨vs, hx, hn, hv⟩, _⟩ =>
   obtain ⟨hlit, h⟩ := h
   obtain ⟨hg, hcall⟩ := defW_ok hm hR hC (fun v hv => by subst hv; simpa using hlit) h
   subst hx
   refine leaves_cons (f := g) (args := vs) (by cases p <;> simp [modeOf]) (by simp [invoke, run_callFunc hg]) ?_
   refine (hcall N0 w0 I0 E w vs hS hn hv).mono fun e u' w' ⟨v, E', S', he, hu, hk, h1, h2⟩ => ?_
   subst he; subst hu
   simp only [settle_aft]
   obtain ⟨us, hus, hK⟩ := someK_imp hk
   obtain ⟨v, hv, hrep⟩ := results_run h1 (hT.le h2) hus
   exact ⟨v, hv, v, E', _, _, rfl, hK, h1, hL.trans h2, hrep⟩
 ·exact h.elim
theorem tfnW_ok {X : Shapes} {R : Callee} {C : CCallee} {fs : FuncId → Bool} {J : InC} (hm : P.follows .mixedOrders = true) (hR : CalleeOk P G R) (hC : ICalleeOk P G (lowC C)) (hJ : InOk P G fs J) {g : TCfg} {f : FuncId} {args : List AV} {S : St} {K : AV → St → Prop} (h : tfnW P idMk G X R C fs J g f args S K) :
  goodFn P f ∧ ∀ (N0 : Nat → Prop) (w0 : World) (I0 : Nat → Nat → Prop) (E : Env) (w : World) (vs : Array Value), SR P G N0 w0 I0 S E w → vs.size = args.length → (∀ (i : Nat) (c : AV) (v : Value), args[i]? = some c → vs[i]? = some v → Rep E w c v) →
   Calls P f vs w fun e w' => ∃ v E' r S', e = .returned v ∧ K r S' ∧ SR P G N0 w0 I0 S' E' w' ∧ Env.Le E E' w w' ∧ Rep E' w' r v := by
 unfold tfnW at h
 split at h
 ·exact h.elim
 ·rename_i fn hf
  split at h
  ·exact h.elim
  ·rename_i c hb
   split at h
   ·exact h.elim
   ·rename_i hname
    refine ⟨⟨fn, hf, by rw [hb]; rfl, by simpa using hname⟩, fun N0 w0 I0 E w vs hS hn hv => ?_⟩
    have hT0 : TR E w (args ++ List.replicate (fn.ntmps - args.length) (.tup [])) (vs ++ Array.replicate (fn.ntmps - vs.size) undef) := by
     refine ⟨by simp [hn], fun i c v hi hv' => ?_⟩
     by_cases hlt : i < args.length
     ·rw [List.getElem?_append_left hlt] at hi
      rw [Array.getElem?_append_left (by omega)] at hv'
      exact hv i c v hi hv'
     ·rw [List.getElem?_append_right (by omega), List.getElem?_replicate] at hi
      rw [Array.getElem?_append_right (by omega), Array.getElem?_replicate] at hv'
      split at hi
      ·split at hv'
       ·simp at hi hv'; subst hi; subst hv'
        exact rep_undef
       ·cases hv'
      ·cases hi
    refine calls_of_wp_defers hf hb (dcodeW_ok (N0 := N0) (w0 := w0) (I0 := I0) hm hR hC hJ g.A g.m g.dr c _ _ _ E _ w _ h hS hT0 rfl fun x ds T S1 E' w' a' hk h1 h2 h3 h4 => ?_)
    cases x with
    | pan v => exact leaveW_ok hm hR hC hk h1 h2 h3 h4
    | ok x =>
    cases x with
    | exit id => exact hk.elim
    | goto l => exact hk.elim
    | normal => exact leaveW_ok hm hR hC (p := none) hk h1 h2 h3 h4
    | ret => exact leaveW_ok hm hR hC (p := none) hk h1 h2 h3 h4
def tlaxW (P : Program) (mk : Mk) (G : Glob) (X : Shapes) (R : Callee) (C : CCallee) (fs : FuncId → Bool) (J : InC) (g : TCfg) (f : FuncId) (args : List AV) (r : AV × List (Nat × TypeId)) : Prop :=
 tfnW P mk G X R C fs J g f args ⟨[], []⟩ fun r0 S => giveW S r0 fun r1 _ => RetLax r1 r
structure TLaxOk (P : Program) (G : Glob) (X : Shapes) (R : Callee) (C : CCallee) (fs : FuncId → Bool) (J : InC) (g : TCfg) (f : FuncId) (args : List AV) (r : AV × List (Nat × TypeId)) : Prop where
 out : tlaxW P idMk G X R C fs J g f args r
theorem tlax_of {X : Shapes} {R : Callee} {C : CCallee} {fs : FuncId → Bool} {J : InC} (hm : P.follows .mixedOrders = true) (hR : CalleeOk P G R) (hC : ICalleeOk P G (lowC C)) (hJ : InOk P G fs J) {f : FuncId} {s : Spec}
  (h : ∀ args r, s args = some r → ∃ g, TLaxOk P G X R C fs J g f args r) : SpecOk P G f s := by
 intro g args r lv hr
 simp only at hr
 split at hr
 ·rename_i e
  subst e
  obtain ⟨A, hA⟩ := h args _ hr
  obtain ⟨hg, hcall⟩ := tfnW_ok hm hR hC hJ hA.out
  refine fun E w vs hI hG hn hv hcl => .inl ⟨hg, ?_⟩
  have hS0 : SR P G (· < w.heap.size) w E.I ⟨[], []⟩ ⟨E.I, fun _ => none, fun _ _ _ => False⟩ w :=
   ⟨BelowQ.refl _ _, fun _ h => h, hI, fun b o h _ => h, fun id b h => (nomatch h), fun id id' b h => (nomatch h), fun id cs h => (nomatch h), fun g e hg => ⟨(hG g e hg).1, rep_elt_rebase (hG g e hg).2.1 _ _, (hG g e hg).2.2⟩, fun id h => (nomatch h), fun t n v h => False.elim h, fun t n v h => False.elim h, fun t n e h => (nomatch h)⟩
  refine (hcall _ _ _ _ w vs hS0 hn fun i c v hi hv' => (hv i c v hi hv').rebase (hcl c (List.mem_of_getElem? hi)) _ _).mono fun e w' ⟨v, E', r0, S', he, hk, h1, h2, h3⟩ => ?_
  obtain ⟨r1, S1, hgv, hk⟩ := giveW_imp hk
  obtain ⟨E1, m1, m2, m3⟩ := giveA_ok h1 hgv h3
  obtain ⟨k1, k2, k3⟩ := hk
  simp only at k1 k2 k3
  subst k3
  refine ⟨v, he, E1.I, fun b o hi => (m2.I b o (h2.I b o hi).1).1, fun b o hi => ?_, m1.below.below, .inl ⟨rfl, fun B K => rep_closed2 (k1.rep m3) k2 B K⟩⟩
  rcases Nat.lt_or_ge b w.heap.size with hlt | hge
  ·exact .inl (m1.Iold b o hi hlt)
  ·exact .inr ⟨hge, m1.Ilt b o hi⟩
 ·cases hr
end
structure POut where
 g : Prop
 pv : Option Value
 r : AV
 S : St
abbrev PSpec := List AV → St → Option (Prop × List POut)
def outsW (K : Option Value → AV → St → Prop) : List POut → Prop
 | [] => True
 | o :: l => (o.g → K o.pv o.r o.S) ∧ outsW K l
theorem outsW_mem {K : Option Value → AV → St → Prop} : ∀ {l : List POut}, outsW K l → ∀ o ∈ l, o.g → K o.pv o.r o.S
 | [], _, o, h, _ => by simp at h
 | a :: l, h, o, ho, hg => by
  rcases List.mem_cons.1 ho with rfl | ho
  ·exact h.1 hg
  ·exact outsW_mem h.2 o ho hg
def pspW (x : Option (Prop × List POut)) (K : Option Value → AV → St → Prop) : Prop :=
 match x with
 | some (p, os) => p ∧ outsW K os
 | none => False
def ptbl : List (FuncId × PSpec) → InC → InC
 | [], J => J
 | (g, s) :: l, J => fun f args S K => if f = g then pspW (s args S) K else ptbl l J f args S K
def PSpecOk (P : Program) (G : Glob) (f : FuncId) (s : PSpec) : Prop :=
 ∀ args S p os, s args S = some (p, os) → p → goodFn P f ∧
  ∀ (N0 : Nat → Prop) (w0 : World) (I0 : Nat → Nat → Prop) (E : Env) (w : World) (vs : Array Value), SR P G N0 w0 I0 S E w → vs.size = args.length → (∀ (i : Nat) (c : AV) (v : Value), args[i]? = some c → vs[i]? = some v → Rep E w c v) →
   Calls P f vs w fun e w' => ∃ o ∈ os, o.g ∧ ∃ E', SR P G N0 w0 I0 o.S E' w' ∧ Env.Le E E' w w' ∧
    ((∃ v, e = .returned v ∧ o.pv = none ∧ Rep E' w' o.r v) ∨ (∃ v, e = .panicked [{ v, recovered := false }] ∧ o.pv = some v))
section
variable {P : Program} {G : Glob}
theorem ptbl_nil {fs : FuncId → Bool} {J : InC} (h : InOk P G fs J) : InOk P G fs (ptbl [] J) := h
theorem ptbl_cons {fs : FuncId → Bool} {J : InC} {f : FuncId} {s : PSpec} {l : List (FuncId × PSpec)} (h : PSpecOk P G f s) (hl : InOk P G fs (ptbl l J)) : InOk P G fs (ptbl ((f, s) :: l) J) := by
 intro g args S K hg hk
 simp only [ptbl] at hk
 by_cases e : g = f
 ·subst e
  simp only [if_true] at hk
  unfold pspW at hk
  split at hk
  case h_2 => exact hk.elim
  rename_i p os hs
  obtain ⟨hg, hc⟩ := h args S p os hs hk.1
  refine ⟨hg, fun N0 w0 I0 E w vs hS hn hv => (hc N0 w0 I0 E w vs hS hn hv).mono fun e w' ⟨o, ho, hgd, E', h1, h2, h3⟩ => ?_⟩
  have hK := outsW_mem hk.2 o ho hgd
  refine ⟨E', o.r, o.S, h1, h2, ?_⟩
  rcases h3 with ⟨v, he, hp, hr⟩ | ⟨v, he, hp⟩
  ·rw [hp] at hK
   exact .inl ⟨v, he, hK, hr⟩
  ·rw [hp] at hK
   exact .inr ⟨v, he, hK⟩
 ·simp only [if_neg e] at hk
  exact hl g args S K hg hk
structure PEnd (ok : Bool) (p : Option Value) (r : AV) (S : St) (os : List POut) : Prop where
 ok : ok = true
 mem : ∃ o ∈ os, o.g ∧ o.pv = p ∧ o.r = r ∧ o.S = S
def pnW (P : Program) (mk : Mk) (G : Glob) (X : Shapes) (R : Callee) (C : CCallee) (fs : FuncId → Bool) (J : InC) (g : PCfg) (f : FuncId) (args : List AV) (S : St) (os : List POut) : Prop :=
 pfnW P mk G X R C fs J g f args S fun p r S' => PEnd (r.p2 S.boxes.length && boxesOk S.boxes.length (S'.boxes.take S.boxes.length)) p r { S' with boxes := S'.boxes.take S.boxes.length } os
structure PnOk (P : Program) (G : Glob) (X : Shapes) (R : Callee) (C : CCallee) (fs : FuncId → Bool) (J : InC) (g : PCfg) (f : FuncId) (args : List AV) (S : St) (os : List POut) : Prop where
 out : pnW P idMk G X R C fs J g f args S os
theorem pspec_of (hm : P.follows .mixedOrders = true) {f : FuncId} {s : PSpec}
  (h : ∀ args S p os, s args S = some (p, os) → p → ∃ (X : Shapes) (R : Callee) (C : CCallee) (fs : FuncId → Bool) (J : InC) (g : PCfg), CalleeOk P G R ∧ ICalleeOk P G (lowC C) ∧ InOk P G fs J ∧ PnOk P G X R C fs J g f args S os) : PSpecOk P G f s := by
 intro args S p os hs hp
 obtain ⟨X, R, C, fs, J, g, hR, hC, hJ, hh⟩ := h args S p os hs hp
 obtain ⟨hg, hcall⟩ := pfnW_ok hm hR hC hJ hh.out
 refine ⟨hg, fun N0 w0 I0 E w vs hS hn hv => (hcall N0 w0 I0 E w vs hS hn hv).mono fun e w' ⟨E', r, S', h1, h2, h3⟩ => ?_⟩
 have le : Env.Le E ⟨E'.I, cutB S.boxes.length E'.B, E'.K⟩ w w' := ⟨h2.I, fun b x hb => by
  have := (hS.Blt b x hb).1
  simp [cutB, this, h2.B b x hb], h2.K, h2.Z⟩
 rcases h3 with ⟨v, he, ⟨hok, o, ho, hgd, e1, e2, e3⟩, hr⟩ | ⟨v, he, ⟨hok, o, ho, hgd, e1, e2, e3⟩⟩
 ·simp only [Bool.and_eq_true] at hok
  exact ⟨o, ho, hgd, ⟨E'.I, cutB S.boxes.length E'.B, E'.K⟩, by rw [e3]; exact h1.cut hok.2, le, .inl ⟨v, he, e1, by rw [e2]; exact hr.cut (pb2 hok.1)⟩⟩
 ·simp only [Bool.and_eq_true] at hok
  exact ⟨o, ho, hgd, ⟨E'.I, cutB S.boxes.length E'.B, E'.K⟩, by rw [e3]; exact h1.cut hok.2, le, .inr ⟨v, he, e1⟩⟩
def inlW (P : Program) (mk : Mk) (G : Glob) (X : Shapes) (R : Callee) (C : CCallee) (fs : FuncId → Bool) (cf : List AV → PCfg) (f0 : FuncId) (J : InC) : InC :=
 fun f args S K => if f = f0 then pfnW P mk G X R C fs J (cf args) f args S K else J f args S K
theorem inlW_ok {X : Shapes} {R : Callee} {C : CCallee} {fs : FuncId → Bool} {cf : List AV → PCfg} {f0 : FuncId} {J : InC} (hm : P.follows .mixedOrders = true) (hR : CalleeOk P G R) (hC : ICalleeOk P G (lowC C)) (hJ : InOk P G fs J) : InOk P G fs (inlW P idMk G X R C fs cf f0 J) := by
 intro f args S K hf h
 unfold inlW at h
 by_cases e : f = f0
 ·rw [if_pos e] at h
  exact pfnW_ok hm hR hC hJ h
 ·rw [if_neg e] at h
  exact hJ f args S K hf h
end
end Go.Abs
