/-
  Regions that draw their order: whatever order the tape takes, the end is that of the text's order.
-/
import Derived.Test.YtooobfhjklcnjaaDoorAbsN
namespace Go.Abs
open Go.RowKit

def dirA (ops : List Oper) (i j : Nat) : Bool :=
  match ops[i]? with
  | some o => o.after.toList.any fun e => Region.binds .any e && e.on == j
  | none => false

def drawOk (ops : List Oper) : Bool :=
  ops.zipIdx.all fun (oi, i) =>
    (oi.after.toList.all fun e => !Region.binds .any e || decide (e.on < i)) &&
    ops.zipIdx.all fun (oj, j) =>
      match oj.dst with
      | some t => (i == j || oi.dst != some t) && (!(oi.looksAt ops.toArray).contains t || (decide (j < i) && dirA ops i j) || (decide (i < j) && dirA ops j i))
      | none => true

def entA (G : Glob) (ops : List Oper) (T : List AV) (bid : Nat) (S S' : St) (o : Oper) : List Loc × List Loc :=
  if guardA ops T o = some true then (touchA (evA G T) bid (effA S S') o.op, writeA (evA G T) bid (effA S S') o.op) else ([], [])

def logA (P : Program) (G : Glob) (R : Callee) (ops : List Oper) : List Oper → Nat → List AV → St → Option (List (List Loc × List Loc) × List AV × St)
  | [], _, T, S => some ([], T, S)
  | o :: l, bid, T, S =>
    match stepA P G R noC ops bid o T S with
    | some (r, S') =>
      match logA P G R ops l (nextBid o bid) (putA T o.dst r) S' with
      | some (lg, T2, S2) => some (entA G ops T bid S S' o :: lg, T2, S2)
      | none => none
    | none => none

def confOk (ops : List Oper) (lg : List (List Loc × List Loc)) : Bool :=
  lg.zipIdx.all fun (a, i) => lg.zipIdx.all fun (b, j) =>
    !(decide (i < j)) || dirA ops j i || !(a.2.any (fun x => b.1.contains x) || a.1.any (fun x => b.2.contains x))

section
variable {P : Program} {G : Glob} {N0 : Nat} {w0 : World} {I0 : Nat → Nat → Prop}

theorem logA_seq {R : Callee} {ops : List Oper} : ∀ (l : List Oper) (bid : Nat) (T : List AV) (S : St) (lg : List (List Loc × List Loc)) (T' : List AV) (S' : St), logA P G R ops l bid T S = some (lg, T', S') →
    ∃ (Ts : Nat → List AV) (Ss : Nat → St) (bs : Nat → Nat) (rs : Nat → AV), Ts 0 = T ∧ Ss 0 = S ∧ Ts l.length = T' ∧ Ss l.length = S' ∧ lg.length = l.length ∧
      ∀ (i : Nat) (o : Oper), l[i]? = some o → stepA P G R noC ops (bs i) o (Ts i) (Ss i) = some (rs i, Ss (i + 1)) ∧ Ts (i + 1) = putA (Ts i) o.dst (rs i) ∧ lg[i]? = some (entA G ops (Ts i) (bs i) (Ss i) (Ss (i + 1)) o)
  | [], bid, T, S, lg, T', S', h => by
    simp only [logA, Option.some.injEq, Prod.mk.injEq] at h
    obtain ⟨rfl, rfl, rfl⟩ := h
    exact ⟨fun _ => T, fun _ => S, fun _ => 0, fun _ => .junk, rfl, rfl, rfl, rfl, rfl, fun i o h => by simp at h⟩
  | o :: l, bid, T, S, lg, T', S', h => by
    simp only [logA] at h
    split at h
    · rename_i r S1 hs
      split at h
      · rename_i lg2 T2 S2 hl
        simp only [Option.some.injEq, Prod.mk.injEq] at h
        obtain ⟨rfl, rfl, rfl⟩ := h
        obtain ⟨Ts, Ss, bs, rs, h1, h2, h3, h4, h5, h6⟩ := logA_seq l _ _ _ _ _ _ hl
        refine ⟨fun i => match i with | 0 => T | i + 1 => Ts i, fun i => match i with | 0 => S | i + 1 => Ss i, fun i => match i with | 0 => bid | i + 1 => bs i, fun i => match i with | 0 => r | i + 1 => rs i,
          rfl, rfl, h3, h4, by simp [h5], fun i o' ho => ?_⟩
        match i, ho with
        | 0, ho =>
          simp only [List.getElem?_cons_zero, Option.some.injEq] at ho
          subst ho
          simp only [h1, h2, hs, List.getElem?_cons_zero, and_self]
        | i + 1, ho =>
          have := h6 i o' (by simpa using ho)
          simpa using this
      · cases h
    · cases h

theorem countP_lt {α : Type} {p q : α → Bool} : ∀ (l : List α), (∀ x ∈ l, q x = true → p x = true) → (∃ x ∈ l, p x = true ∧ q x = false) → l.countP q < l.countP p
  | [], _, ⟨x, hx, _⟩ => by cases hx
  | y :: l, h, ⟨x, hx, hp, hq⟩ => by
    have hle : l.countP q ≤ l.countP p := List.countP_mono_left fun z hz => h z (by simp [hz])
    rcases List.mem_cons.1 hx with rfl | hx'
    · simp [hp, hq]; omega
    · have ih := countP_lt l (fun z hz => h z (by simp [hz])) ⟨x, hx', hp, hq⟩
      have := h y (by simp)
      simp only [List.countP_cons]
      by_cases hqy : q y = true
      · simp [hqy, this hqy]; exact ih
      · simp [hqy]; omega

theorem zip_all {α : Type} {l : List α} {f : α × Nat → Bool} (h : l.zipIdx.all f = true) {i : Nat} {x : α} (hx : l[i]? = some x) : f (x, i) = true := by
  rw [List.all_eq_true] at h
  refine h (x, i) (List.mem_iff_getElem?.2 ⟨i, ?_⟩)
  rw [List.getElem?_zipIdx, hx]; simp

theorem putA_length (T : List AV) (d : Option Tmp) (r : AV) : (putA T d r).length = T.length := by cases d <;> simp [putA]

set_option maxHeartbeats 1000000 in
theorem drawA_wp {R : Callee} (hm : P.follows .mixedOrders = true) (hR : CalleeOk P G R) {ops : List Oper} (hok : drawOk ops = true) {id bid : Nat} {T T' : List AV} {S0 S' : St} {lg : List (List Loc × List Loc)}
    (hlog : logA P G R ops ops bid T S0 = some (lg, T', S')) (hconf : confOk ops lg = true) {E0 : Env} {a0 : Act} {w1 : World} (hS : SR P G N0 w0 I0 S0 E0 w1) (hT : TR E0 w1 T a0.tmps) {Q : Exit → Act → World → Prop}
    (hQ : ∀ E' w' a', SR P G N0 w0 I0 S' E' w' → Env.Le E0 E' w1 w' → TR E' w' T' a'.tmps → a'.defers = a0.defers → Q .normal a' w') : (Code.region id ops.toArray true).wp P Q a0 w1 := by
  obtain ⟨Ts, Ss, bs, rs, e1, e2, e3, e4, e5, hseq⟩ := logA_seq ops bid T S0 lg T' S' hlog
  -- what the checks say
  have ok1 : ∀ i o e, ops[i]? = some o → e ∈ o.after → Region.binds .any e = true → e.on < i := fun i o e ho he hb => by
    have := zip_all hok ho
    simp only [Bool.and_eq_true, List.all_eq_true] at this
    have h2 := this.1 e (by simpa using he)
    simpa [hb] using h2
  have ok2 : ∀ i oi j oj t, ops[i]? = some oi → ops[j]? = some oj → oj.dst = some t → (i ≠ j → oi.dst ≠ some t) ∧ (t ∈ oi.looksAt ops.toArray → (j < i ∧ dirA ops i j = true) ∨ (i < j ∧ dirA ops j i = true)) := fun i oi j oj t hi hj ht => by
    have := zip_all hok hi
    simp only [Bool.and_eq_true] at this
    have h2 := zip_all this.2 hj
    simp only [ht, Bool.and_eq_true, Bool.or_eq_true, beq_iff_eq, bne_iff_ne, ne_eq, Bool.not_eq_true'] at h2
    refine ⟨fun hne => h2.1.resolve_left hne, fun hmem => ?_⟩
    rcases h2.2 with (h3 | h3) | h3
    · have : (oi.looksAt ops.toArray).contains t = true := by simpa using hmem
      rw [this] at h3; cases h3
    · exact .inl (by simpa using h3)
    · exact .inr (by simpa using h3)
  have dir : ∀ i j, dirA ops i j = true → ∃ o e, ops[i]? = some o ∧ e ∈ o.after ∧ Region.binds .any e = true ∧ e.on = j := fun i j h => by
    unfold dirA at h
    split at h
    · rename_i o ho
      obtain ⟨e, he, hh⟩ := List.any_eq_true.1 h
      simp only [Bool.and_eq_true, beq_iff_eq] at hh
      exact ⟨o, e, ho, by simpa using he, hh.1, hh.2⟩
    · cases h
  have ok3 : ∀ i j a b loc, lg[i]? = some a → lg[j]? = some b → i < j → (loc ∈ a.2 ∧ loc ∈ b.1 ∨ loc ∈ a.1 ∧ loc ∈ b.2) → dirA ops j i = true := fun i j a b loc hi hj hlt hloc => by
    have := zip_all hconf hi
    have h2 := zip_all this hj
    simp only [hlt, decide_true, Bool.not_true, Bool.false_or, Bool.or_eq_true, Bool.not_eq_true', Bool.or_eq_false_iff] at h2
    rcases h2 with h2 | ⟨h3, h4⟩
    · exact h2
    · exfalso
      rcases hloc with ⟨x1, x2⟩ | ⟨x1, x2⟩
      · have : a.2.any (fun x => b.1.contains x) = true := List.any_eq_true.2 ⟨loc, x1, by simpa using x2⟩
        rw [this] at h3; cases h3
      · have : a.1.any (fun x => b.2.contains x) = true := List.any_eq_true.2 ⟨loc, x1, by simpa using x2⟩
        rw [this] at h4; cases h4
  have hlen : ∀ i, i ≤ ops.length → (Ts i).length = T.length := fun i => by
    induction i with
    | zero => intro _; rw [e1]
    | succ i ih =>
      intro hi
      have ho : ops[i]? = some ops[i] := List.getElem?_eq_getElem (by omega)
      rw [(hseq i _ ho).2.1, putA_length]; exact ih (by omega)
  -- a slot is written once
  have stay : ∀ t i, (∀ j oj, ops[j]? = some oj → oj.dst = some t → j < i) → ∀ k, i ≤ k → k ≤ ops.length → (Ts k)[t]? = (Ts i)[t]? := fun t i hw k => by
    induction k with
    | zero => intro h _; have : i = 0 := by omega
              subst this; rfl
    | succ k ih =>
      intro h1 h2
      rcases Nat.lt_or_ge k i with h | h
      · have : i = k + 1 := by omega
        subst this; rfl
      · have ho : ops[k]? = some ops[k] := List.getElem?_eq_getElem (by omega)
        rw [(hseq k _ ho).2.1, ← ih h (by omega)]
        unfold putA
        split
        · rename_i d hd
          have hne : d ≠ t := fun e => by
            subst e
            have := hw k _ ho hd
            omega
          rw [List.getElem?_set_ne hne]
        · rfl
  have stay0 : ∀ t i, i ≤ ops.length → (∀ j oj, ops[j]? = some oj → oj.dst = some t → i ≤ j) → (Ts i)[t]? = T[t]? := fun t i => by
    induction i with
    | zero => intro _ _; rw [e1]
    | succ i ih =>
      intro hi hw
      have ho : ops[i]? = some ops[i] := List.getElem?_eq_getElem (by omega)
      rw [(hseq i _ ho).2.1, ← ih (by omega) (fun j oj hj hd => by have := hw j oj hj hd; omega)]
      unfold putA
      split
      · rename_i d hd
        have hne : d ≠ t := fun e => by
          subst e
          have := hw i _ ho hd
          omega
        rw [List.getElem?_set_ne hne]
      · rfl
  have wrT : ∀ i o, ops[i]? = some o → (∀ loc, loc ∉ (entA G ops (Ts i) (bs i) (Ss i) (Ss (i + 1)) o).2 → Agree loc (Ss (i + 1)) (Ss i)) := fun i o ho loc hloc => by
    have hst := (hseq i o ho).1
    unfold stepA at hst
    unfold entA at hloc
    split at hst
    · rename_i hg
      rw [if_pos hg] at hloc
      obtain ⟨S3, _, h2⟩ := opA_local (S2 := Ss i) hst (fun loc _ => Agree.refl _ _)
      exact ((h2 loc).2 hloc).2
    · simp only [Option.some.injEq, Prod.mk.injEq] at hst
      rw [hst.2]; exact Agree.refl _ _
    · cases hst
  have agTrans : ∀ {loc : Loc} {A B C : St}, Agree loc A B → Agree loc B C → Agree loc A C := fun {loc A B C} h k => by
    cases loc with
    | none => exact Eq.trans h k
    | some i => exact Eq.trans h k
  have agSymm : ∀ {loc : Loc} {A B : St}, Agree loc A B → Agree loc B A := fun {loc A B} h => by
    cases loc with
    | none => exact Eq.symm h
    | some i => exact Eq.symm h
  have key : ∀ (fuel : Nat) (listed : Array Bool) (a : Act) (w : World) (S : St) (E : Env), listed.size = ops.length →
      ((List.range ops.length).countP fun i => !listed.getD i false) ≤ fuel →
      (∀ j o e, ops[j]? = some o → listed.getD j false = true → e ∈ o.after → Region.binds .any e = true → listed.getD e.on false = true) →
      T'.length = a.tmps.size → (∀ (t : Nat) (c : AV) (v : Value), T'[t]? = some c → a.tmps[t]? = some v → (∀ j oj, ops[j]? = some oj → oj.dst = some t → listed.getD j false = true) → Rep E w c v) →
      (∀ (t : Nat) (c : AV) (v : Value), T[t]? = some c → a.tmps[t]? = some v → (∀ j oj, ops[j]? = some oj → oj.dst = some t → listed.getD j false = false) → Rep E w c v) →
      (∀ (loc : Loc) (m : Nat), m ≤ ops.length → (∀ j e, lg[j]? = some e → loc ∈ e.2 → (listed.getD j false = true ↔ j < m)) → Agree loc S (Ss m)) →
      SR P G N0 w0 I0 S E w → Env.Le E0 E w1 w → a.defers = a0.defers → wpAny P .any ops.toArray Q fuel listed a w := by
    intro fuel
    induction fuel with
    | zero =>
      intro listed a w S E hsz hun hcl htz htm htm0 hmem hSR hle hdf
      have hall : ∀ j, j < ops.length → listed.getD j false = true := fun j hj => by
        have h0 : ((List.range ops.length).countP fun i => !listed.getD i false) = 0 := by omega
        rw [List.countP_eq_zero] at h0
        have := h0 j (List.mem_range.2 hj)
        simpa using this
      have hS' : S = S' := by
        obtain ⟨b, l⟩ := S
        obtain ⟨b', l'⟩ := S'
        have hfull : ∀ loc, Agree loc ⟨b, l⟩ ⟨b', l'⟩ := fun loc => by
          rw [← e4]
          exact hmem loc ops.length (Nat.le_refl _) fun j e hj _ => by
            have hj' : j < ops.length := by rw [← e5]; exact (List.getElem?_eq_some_iff.1 hj).1
            exact ⟨fun _ => hj', fun _ => hall j hj'⟩
        have hb : b = b' := List.ext_getElem? fun i => hfull (some i)
        have hl : l = l' := hfull none
        rw [hb, hl]
      subst hS'
      refine ⟨?_, hQ E w a hSR hle ⟨htz, fun t c v hc hv => htm t c v hc hv fun j oj hj _ => hall j (List.getElem?_eq_some_iff.1 hj).1⟩ hdf⟩
      cases hr : Region.ready .any ops.toArray listed with
      | nil => rfl
      | cons x xs =>
        have hx : x ∈ Region.ready .any ops.toArray listed := by rw [hr]; simp
        obtain ⟨h1, o, ho, _⟩ := mem_ready.1 hx
        have hx' : x < ops.length := by simpa using (Array.getElem?_eq_some_iff.1 ho).1
        have h2 := hall x hx'
        simp [Array.getD, hsz, hx'] at h1 h2
        rw [h1] at h2; cases h2
    | succ fuel ih =>
      intro listed a w S E hsz hun hcl htz htm htm0 hmem hSR hle hdf
      refine ⟨fun hr => ?_, fun i hi => ?_⟩
      · -- nothing is ready: all is done
        have hall : ∀ j, j < ops.length → listed.getD j false = true := fun j => by
          induction j using Nat.strongRecOn with
          | _ j ihj =>
            intro hj
            cases hL : listed.getD j false with
            | true => rfl
            | false =>
              exfalso
              have ho : ops[j]? = some ops[j] := List.getElem?_eq_getElem hj
              have : j ∈ Region.ready .any ops.toArray listed := mem_ready.2 ⟨by simp [Array.getD, hsz, hj] at hL ⊢; exact hL, ops[j], by simp, fun e he hb => by
                have hlt := ok1 j _ e ho he hb
                exact ihj e.on hlt (by omega)⟩
              rw [hr] at this; cases this
        have hS' : S = S' := by
          obtain ⟨b, l⟩ := S
          obtain ⟨b', l'⟩ := S'
          have hfull : ∀ loc, Agree loc ⟨b, l⟩ ⟨b', l'⟩ := fun loc => by
            rw [← e4]
            exact hmem loc ops.length (Nat.le_refl _) fun j e hj _ => by
              have hj' : j < ops.length := by rw [← e5]; exact (List.getElem?_eq_some_iff.1 hj).1
              exact ⟨fun _ => hj', fun _ => hall j hj'⟩
          have hb : b = b' := List.ext_getElem? fun i => hfull (some i)
          have hl : l = l' := hfull none
          rw [hb, hl]
        subst hS'
        exact hQ E w a hSR hle ⟨htz, fun t c v hc hv => htm t c v hc hv fun j oj hj _ => hall j (List.getElem?_eq_some_iff.1 hj).1⟩ hdf
      · obtain ⟨hun_i, o, ho', hready⟩ := mem_ready.1 hi
        have ho : ops[i]? = some o := by simpa using ho'
        have hin : i < ops.length := (List.getElem?_eq_some_iff.1 ho).1
        have hnot : listed.getD i false = false := by simp [Array.getD, hsz, hin] at hun_i ⊢; exact hun_i
        have hset : ∀ j, (listed.setIfInBounds i true).getD j false = (if i = j then true else listed.getD j false) := fun j => by
          by_cases hj : i = j
          · subst hj
            simp [Array.getD, hsz, hin]
          · rw [getD_set_ne false hj, if_neg hj]
        have hdirL : ∀ j, dirA ops i j = true → listed.getD j false = true := fun j hd => by
          obtain ⟨o2, e, h1, h2, h3, h4⟩ := dir i j hd
          rw [ho] at h1; injection h1 with h1; subst h1
          rw [← h4]; exact hready e h2 h3
        obtain ⟨hst, hTs, hlg⟩ := hseq i o ho
        -- the slots that it looks at are known
        have hlook : ∀ t, t ∈ o.looksAt ops.toArray → ∀ (c : AV) (v : Value), (Ts i)[t]? = some c → a.tmps[t]? = some v → Rep E w c v := fun t ht c v hc hv => by
          by_cases hB : ∃ j oj, ops[j]? = some oj ∧ oj.dst = some t ∧ i < j
          · obtain ⟨j, oj, hj, hd, hij⟩ := hB
            have uniq : ∀ k ok, ops[k]? = some ok → ok.dst = some t → k = j := fun k ok hk hdk => by
              by_cases hkj : k = j
              · exact hkj
              · exact absurd hdk ((ok2 k ok j oj t hk hj hd).1 hkj)
            rw [stay0 t i (by omega) (fun k ok hk hdk => by have := uniq k ok hk hdk; omega)] at hc
            refine htm0 t c v hc hv fun k ok hk hdk => ?_
            obtain rfl := uniq k ok hk hdk
            have hdir : dirA ops k i = true := by
              rcases (ok2 i o k oj t ho hj hd).2 ht with h | h
              · omega
              · exact h.2
            cases hL : listed.getD k false with
            | false => rfl
            | true =>
              obtain ⟨o2, e, h1, h2, h3, h4⟩ := dir k i hdir
              have := hcl k o2 e h1 hL h2 h3
              rw [h4, hnot] at this; cases this
          · have hA : ∀ j oj, ops[j]? = some oj → oj.dst = some t → j < i ∧ dirA ops i j = true := fun j oj hj hd => by
              rcases (ok2 i o j oj t ho hj hd).2 ht with h | h
              · exact h
              · exact absurd ⟨j, oj, hj, hd, h.1⟩ hB
            rw [← stay t i (fun j oj hj hd => (hA j oj hj hd).1) ops.length (by omega) (Nat.le_refl _), e3] at hc
            exact htm t c v hc hv fun j oj hj hd => hdirL j (hA j oj hj hd).2
        have hTlen : (Ts i).length = a.tmps.size := by rw [hlen i (by omega), ← htz, ← e3, hlen _ (Nat.le_refl _)]
        have hgrd : ∀ g, guardA ops (Ts i) o = some g → Region.wanted o (yielded ops.toArray a.tmps) = g := fun g hg => by
          refine guardA_run (E := E) (w := w) hg hTlen fun j want t c v hgu hd hc hv => ?_
          have hmem : t ∈ o.looksAt ops.toArray := by
            unfold Oper.looksAt
            refine List.mem_append_right _ ?_
            rw [hgu]
            simp [hd]
          exact hlook t hmem c v hc hv
        -- what holds behind it
        have next : ∀ (a' : Act) (w' : World) (S3 : St) (E' : Env) (r : AV) (v : Value), a' = a.put o.dst v → r = rs i → SR P G N0 w0 I0 S3 E' w' → Env.Le E E' w w' → Rep E' w' r v →
            (∀ loc, (loc ∈ (entA G ops (Ts i) (bs i) (Ss i) (Ss (i + 1)) o).2 → Agree loc S3 (Ss (i + 1))) ∧ (loc ∉ (entA G ops (Ts i) (bs i) (Ss i) (Ss (i + 1)) o).2 → Agree loc S3 S)) →
            wpAny P .any ops.toArray Q fuel (listed.setIfInBounds i true) a' w' := by
          intro a' w' S3 E' r v ha hr hSR' hle' hrep hS3
          subst ha; subst hr
          refine ih _ _ _ S3 E' (by simpa using hsz) ?_ (fun j oj e hj hL he hb => ?_) ?_ (fun t c u hc hu hw => ?_) (fun t c u hc hu hw => ?_) (fun loc m hm hw => ?_) hSR' (hle.trans hle') ((put_defers _ _ _).trans hdf)
          · have := countP_lt (p := fun i => !listed.getD i false) (q := fun j => !(listed.setIfInBounds i true).getD j false) (List.range ops.length) (fun x _ hx => by
              simp only [hset] at hx
              split at hx
              · cases hx
              · exact hx) ⟨i, List.mem_range.2 hin, by simpa using hnot, by simp [hset]⟩
            omega
          · rw [hset] at hL ⊢
            split
            · rfl
            · split at hL
              · rename_i h1 h2
                subst h2
                rw [ho] at hj; injection hj with hj; subst hj
                exact hready e he hb
              · exact hcl j oj e hj hL he hb
          · rw [htz]; cases o.dst <;> simp [Act.put]
          · -- slots
            by_cases hd : o.dst = some t
            · have htl : t < T'.length := (List.getElem?_eq_some_iff.1 hc).1
              have h1 : T'[t]? = some (rs i) := by
                rw [← e3]
                have h2 := stay t (i + 1) (fun j oj hj hdj => by
                  by_cases hji : j = i
                  · omega
                  · exact absurd hd ((ok2 i o j oj t ho hj hdj).1 (Ne.symm hji))) ops.length (by omega) (Nat.le_refl _)
                rw [h2, hTs]
                simp only [putA, hd]
                rw [List.getElem?_set_self (by rw [hlen i (by omega)]; rw [← e3, hlen _ (Nat.le_refl _)] at htl; exact htl)]
              rw [h1] at hc; injection hc with hc; subst hc
              have h2 : (a.put o.dst v).tmps[t]? = some v := by
                simp only [Act.put, hd]
                rw [Array.getElem?_setIfInBounds]
                simp [← htz, htl]
              rw [h2] at hu; injection hu with hu; subst hu
              exact hrep
            · have h2 : (a.put o.dst v).tmps[t]? = a.tmps[t]? := by
                cases hdd : o.dst with
                | none => rfl
                | some d =>
                  have hne : d ≠ t := fun e => hd (by rw [hdd, e])
                  simp only [Act.put]
                  rw [Array.getElem?_setIfInBounds_ne hne]
              rw [h2] at hu
              refine (htm t c u hc hu fun j oj hj hdj => ?_).le hle'
              have := hw j oj hj hdj
              rw [hset] at this
              split at this
              · rename_i h3
                subst h3
                rw [ho] at hj; injection hj with hj; subst hj
                exact absurd hdj hd
              · exact this
          · -- slots that are as they were
            have hd : o.dst ≠ some t := fun hd => by
              have := hw i o ho hd
              rw [hset, if_pos rfl] at this; cases this
            have h2 : (a.put o.dst v).tmps[t]? = a.tmps[t]? := by
              cases hdd : o.dst with
              | none => rfl
              | some d =>
                have hne : d ≠ t := fun e => hd (by rw [hdd, e])
                simp only [Act.put]
                rw [Array.getElem?_setIfInBounds_ne hne]
            rw [h2] at hu
            refine (htm0 t c u hc hu fun j oj hj hdj => ?_).le hle'
            have := hw j oj hj hdj
            rw [hset] at this
            split at this
            · cases this
            · exact this
          · -- memory
            by_cases hin' : loc ∈ (entA G ops (Ts i) (bs i) (Ss i) (Ss (i + 1)) o).2
            · have him : i < m := by
                have := (hw i _ hlg hin')
                rw [hset, if_pos rfl] at this
                exact this.1 rfl
              have hno : ∀ k, i < k → k < m → ∀ e, lg[k]? = some e → loc ∉ e.2 := fun k hik hkm e he hloc => by
                have hL := (hw k e he hloc).2 hkm
                rw [hset, if_neg (by omega)] at hL
                have hd := ok3 i k _ e loc hlg he hik (.inr ⟨by
                  have h5 : loc ∈ (entA G ops (Ts i) (bs i) (Ss i) (Ss (i + 1)) o).2 := hin'
                  unfold entA at h5 ⊢
                  split at h5
                  · rename_i hg
                    simp only at h5 ⊢
                    unfold writeA at h5
                    rw [if_pos hg]
                    split at h5
                    · simp at h5
                    · exact h5
                  · simp at h5, hloc⟩)
                obtain ⟨o2, e', h1, h2, h3, h4⟩ := dir k i hd
                have := hcl k o2 e' h1 hL h2 h3
                rw [h4, hnot] at this; cases this
              have hsteps : ∀ k, i + 1 ≤ k → k ≤ m → Agree loc (Ss k) (Ss (i + 1)) := fun k => by
                induction k with
                | zero => intro h _; omega
                | succ k ihk =>
                  intro h1 h2
                  rcases Nat.lt_or_ge i k with h3 | h3
                  · have hok2 : ops[k]? = some ops[k] := List.getElem?_eq_getElem (by omega)
                    exact agTrans (wrT k _ hok2 loc (hno k h3 (by omega) _ (hseq k _ hok2).2.2)) (ihk (by omega) (by omega))
                  · have : k = i := by omega
                    subst this; exact Agree.refl _ _
              exact agTrans ((hS3 loc).1 hin') (agSymm (hsteps m (by omega) (Nat.le_refl _)))
            · exact agTrans ((hS3 loc).2 hin') (hmem loc m hm fun j e hj hloc => by
                have hji : i ≠ j := fun e' => by
                  subst e'
                  rw [hlg] at hj; injection hj with hj; subst hj
                  exact hin' hloc
                have := hw j e hj hloc
                rw [hset, if_neg hji] at this
                exact this)
        unfold stepA at hst
        unfold wpOp
        simp only [List.getElem?_toArray, ho]
        split at hst
        · rename_i hg
          rw [hgrd true hg]
          simp only [if_true]
          -- known slots alone
          let Tk : List AV := (List.range T'.length).map fun t => if (o.looksAt ops.toArray).contains t then (Ts i).getD t (.tup []) else .junk
          have hTil : (Ts i).length = T'.length := by rw [hTlen, htz]
          have hTk : TR E w Tk a.tmps := by
            refine ⟨by simp [Tk, htz], fun t c v hc hv => ?_⟩
            simp only [Tk, List.getElem?_map] at hc
            by_cases ht : t < T'.length
            · rw [List.getElem?_range ht] at hc
              simp only [Option.map_some, Option.some.injEq] at hc
              subst hc
              split
              · rename_i hk
                refine hlook t (by simpa using hk) _ v ?_ hv
                rw [List.getD_eq_getElem?_getD, List.getElem?_eq_getElem (by omega)]; rfl
              · exact .junk v
            · rw [List.getElem?_eq_none (by simpa using ht)] at hc; cases hc
          have hev : ∀ x ∈ o.op.operands, evA G (Ts i) x = evA G Tk x := fun x hx => by
            cases x with
            | tmp t =>
              have hmem : t ∈ o.looksAt ops.toArray := by
                unfold Oper.looksAt
                exact List.mem_append_left _ (List.mem_filterMap.2 ⟨.tmp t, by simpa using hx, rfl⟩)
              have hc : (o.looksAt ops.toArray).contains t = true := by simpa using hmem
              simp only [evA, List.getD_eq_getElem?_getD]
              simp only [Tk, List.getElem?_map]
              by_cases ht : t < T'.length
              · rw [List.getElem?_range ht]
                simp only [Option.map_some, Option.getD_some]
                rw [if_pos hc, List.getD_eq_getElem?_getD]
              · have hz : (Ts i)[t]? = none := List.getElem?_eq_none (by rw [hTil]; exact Nat.le_of_not_lt ht)
                have hz2 : (List.range T'.length)[t]? = none := List.getElem?_eq_none (by simpa using ht)
                rw [hz, hz2]; rfl
            | _ => rfl
          have htouch : ∀ loc ∈ touchA (evA G (Ts i)) (bs i) (effA (Ss i) (Ss (i + 1))) o.op, Agree loc S (Ss i) := fun loc hloc => by
            refine hmem loc i (by omega) fun j e hj hlw => ?_
            have hlgt : loc ∈ (entA G ops (Ts i) (bs i) (Ss i) (Ss (i + 1)) o).1 := by unfold entA; rw [if_pos hg]; exact hloc
            constructor
            · intro hL
              rcases Nat.lt_trichotomy j i with h | h | h
              · exact h
              · subst h; rw [hnot] at hL; cases hL
              · have hd := ok3 i j _ e loc hlg hj h (.inr ⟨hlgt, hlw⟩)
                obtain ⟨o2, e', h1, h2, h3, h4⟩ := dir j i hd
                have := hcl j o2 e' h1 hL h2 h3
                rw [h4, hnot] at this; cases this
            · intro hlt
              exact hdirL j (ok3 j i e _ loc hj hlg hlt (.inl ⟨hlw, hlgt⟩))
          obtain ⟨S3, hop, hS3⟩ := opA_local hst htouch
          rw [opA_congr hev] at hop
          refine .inl (op_wp hR noC_ok hSR hTk hop fun E' w' v h1 h2 h3 => ?_)
          refine next _ w' S3 E' _ v rfl rfl h1 h2 h3 fun loc => ?_
          unfold entA
          rw [if_pos hg]
          exact ⟨(hS3 loc).1, fun hn => ((hS3 loc).2 hn).1⟩
        · rename_i hg
          rw [hgrd false hg]
          simp only [Bool.false_eq_true, if_false]
          simp only [Option.some.injEq, Prod.mk.injEq] at hst
          refine next _ w S E _ undef rfl rfl hSR (Env.Le.refl _ _) (by rw [← hst.1]; exact rep_undef) fun loc => ?_
          unfold entA
          rw [if_neg (by rw [hg]; simp)]
          exact ⟨fun h => by simp at h, fun _ => Agree.refl _ _⟩
        · cases hst
  refine wp_region_any hm ?_
  obtain ⟨hS1, hL1⟩ := hS.ext (w' := w1.drew) (below_drew w1) (I' := E0.I) (fun _ _ h => h) (fun _ _ h => .inl h)
  refine key ops.toArray.size (Array.replicate ops.toArray.size false) a0 w1.drew S0 E0 (by simp) (Nat.le_trans List.countP_le_length (by simp)) (fun j o e _ hL => by simp [Array.getD] at hL) (by rw [← e3, hlen _ (Nat.le_refl _)]; exact hT.1) (fun t c v hc hv hw => ?_) (fun t c v hc hv _ => (hT.2 t c v hc hv).le hL1) (fun loc m hm' hw => ?_) hS1 hL1 rfl
  · have hnw : ∀ j oj, ops[j]? = some oj → oj.dst = some t → j < 0 := fun j oj hj hd => by
      have := hw j oj hj hd
      simp [Array.getD] at this
    rw [← e3, stay t 0 hnw ops.length (by omega) (Nat.le_refl _), e1] at hc
    exact (hT.2 t c v hc hv).le hL1
  · have hsteps : ∀ k, k ≤ m → Agree loc (Ss k) (Ss 0) := fun k => by
      induction k with
      | zero => intro _; exact Agree.refl _ _
      | succ k ihk =>
        intro h1
        have hok2 : ops[k]? = some ops[k] := List.getElem?_eq_getElem (by omega)
        refine agTrans (wrT k _ hok2 loc fun hloc => ?_) (ihk (by omega))
        have := (hw k _ (hseq k _ hok2).2.2 hloc).2 (by omega)
        simp [Array.getD] at this
    rw [← e2]
    exact agSymm (hsteps m (Nat.le_refl _))
end
end Go.Abs
