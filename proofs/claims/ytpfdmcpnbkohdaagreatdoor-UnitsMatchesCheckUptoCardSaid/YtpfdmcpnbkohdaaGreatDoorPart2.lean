/- Own texts, part 2. -/
import Derived.Test.YtpfdmcpnbkohdaaGreatDoorPart1
import Derived.LoopN
import Derived.Scope
import Derived.Deep.LoopGhost
import Derived.Lib.BytesEntry
import Derived.Lib.IndexMore
import Derived.Laws.Externs
import Derived.KernelRfl

namespace Go.Abs
open Go.RowKit

/-- a place: a variable, or what is known of the owners -/
abbrev Loc := Option Nat
def Agree (loc : Loc) (S S' : St) : Prop :=
  match loc with
  | none => S.live = S'.live
  | some id => S.boxes[id]? = S'.boxes[id]?

def boxOf : AV → List Loc
  | .ptr b _ => [some b]
  | .mp b => [some b]
  | _ => []

def touchA (ρ : Operand → AV) (bid : Nat) (eff : Bool) : Op → List Loc
  | .alloc _ | .box .. | .range .. | .makeMap .. => [some bid]
  | .lookup _ x _ _ => boxOf (ρ x)
  | .mapUpdate _ x _ _ => boxOf (ρ x)
  | .next it _ => boxOf (ρ it)
  | .load _ a => boxOf (ρ a)
  | .store _ a _ => boxOf (ρ a)
  | .makeSlice .. => [none]
  | .call c =>
    match c.callee with
    | .builtin .append => [none]
    | .builtin .delete =>
      match c.args.toList with
      | [x, _] => boxOf (ρ x)
      | _ => []
    | .value _ => if eff then [none] else []
    | _ => []
  | _ => []

def writeA (ρ : Operand → AV) (bid : Nat) (eff : Bool) : Op → List Loc
  | .load .. | .lookup .. => []
  | op => touchA ρ bid eff op

def effA (S S' : St) : Bool := S'.live.length != S.live.length

section
variable {P : Program}

theorem opA_congr {R : Callee} {C : ICallee} {ρ ρ' : Operand → AV} {bid : Nat} {S : St} {op : Op} (h : ∀ x ∈ op.operands, ρ x = ρ' x) : opA P R C ρ bid S op = opA P R C ρ' bid S op := by
  have pairs : ∀ ps : Array (Nat × Operand), (∀ x ∈ (ps.toList.map (·.2)).toArray, ρ x = ρ' x) → (ps.toList.map fun p => (p.1, ρ p.2)) = ps.toList.map fun p => (p.1, ρ' p.2) := fun ps hp =>
    List.map_congr_left fun p hm => by rw [hp p.2 (by simp; exact ⟨p.1, by simpa using hm⟩)]
  cases op <;> simp only [Op.operands] at h <;> simp only [opA]
  case build t ps => rw [pairs ps h]
  case buildSlice t n ps => rw [pairs ps h]
  case call c =>
    obtain ⟨callee, args, tys⟩ := c
    have ha : ∀ x ∈ args, ρ x = ρ' x := fun x hx => h x (by simp [Call.operands, hx])
    have hm : args.toList.map ρ = args.toList.map ρ' := List.map_congr_left fun x hx => ha x (by simpa using hx)
    cases callee with
    | builtin b =>
      cases b <;> simp only
      case len =>
        split
        · rename_i t x _ hx
          rw [ha x (by rw [← Array.mem_toList_iff, hx]; simp)]
        · rfl
      case max =>
        split
        · rename_i x y hx
          rw [ha x (by rw [← Array.mem_toList_iff, hx]; simp), ha y (by rw [← Array.mem_toList_iff, hx]; simp)]
        · rfl
      case min =>
        split
        · rename_i x y hx
          rw [ha x (by rw [← Array.mem_toList_iff, hx]; simp), ha y (by rw [← Array.mem_toList_iff, hx]; simp)]
        · rfl
      case append =>
        split
        · rename_i t tx x y _ hx
          rw [ha x (by rw [← Array.mem_toList_iff, hx]; simp), ha y (by rw [← Array.mem_toList_iff, hx]; simp)]
        · rfl
      case delete =>
        split
        · rename_i t tx x y _ hx
          rw [ha x (by rw [← Array.mem_toList_iff, hx]; simp), ha y (by rw [← Array.mem_toList_iff, hx]; simp)]
        · rfl
    | value f =>
      have hf : ρ f = ρ' f := h f (by simp [Call.operands])
      simp only [hf, hm]
    | invoke r m => rfl
  case makeFunc fn first captured =>
    have hm : captured.toList.map ρ = captured.toList.map ρ' := List.map_congr_left fun x hx => h x (by simp; exact .inr (by simpa using hx))
    rw [hm]
  case slice t x lo hi mx => cases lo <;> cases hi <;> cases mx <;> simp_all
  all_goals first | rfl | (simp_all; done)

theorem Agree.refl (loc : Loc) (S : St) : Agree loc S S := by cases loc <;> rfl

theorem appendA_local {S S1 S2 : St} {t tx : TypeId} {x y r : AV} (h : appendA P S t tx x y = some (r, S1)) (hl : S2.live = S.live) :
    ∃ l, S1 = { S with live := l } ∧ appendA P S2 t tx x y = some (r, { S2 with live := l }) := by
  obtain ⟨b, l⟩ := S
  obtain ⟨b2, l2⟩ := S2
  simp only at hl; subst hl
  unfold appendA at h ⊢
  split at h
  · rename_i e hu
    split at h
    · rename_i i sz es o hi
      split at h
      · rename_i hc
        split at h
        · rename_i ys hys
          split at h
          · rename_i hr
            simp only [hc, hr, and_self, if_true]
            split at h
            · rename_i hn
              simp only [Option.some.injEq, Prod.mk.injEq] at h
              obtain ⟨rfl, rfl⟩ := h
              exact ⟨l2, rfl, by simp [hn]⟩
            · rename_i hn
              simp only [hn, if_false]
              generalize o.weak = ow at h ⊢
              cases ow with
              | full =>
                simp only [Option.some.injEq, Prod.mk.injEq] at h
                obtain ⟨rfl, rfl⟩ := h
                exact ⟨_, rfl, rfl⟩
              | no => simp at h
              | nil => simp at h
              | tok k =>
                simp only at h ⊢
                split at h
                · rename_i n e' hk
                  split at h
                  · rename_i hc2
                    simp only [Option.some.injEq, Prod.mk.injEq] at h
                    obtain ⟨rfl, rfl⟩ := h
                    exact ⟨_, rfl, by simp only [hc2, and_self, if_true]⟩
                  · cases h
                · cases h
          · cases h
        · cases h
      · cases h
    · cases h
  · cases h

theorem makeSliceA_local {S S1 S2 : St} {t : TypeId} {x y r : AV} (h : makeSliceA P S t x y = some (r, S1)) (hl : S2.live = S.live) :
    ∃ l, S1 = { S with live := l } ∧ makeSliceA P S2 t x y = some (r, { S2 with live := l }) := by
  obtain ⟨b, l⟩ := S
  obtain ⟨b2, l2⟩ := S2
  simp only at hl; subst hl
  unfold makeSliceA at h ⊢
  split at h
  · rename_i e n m hu
    split at h
    · rename_i i hi
      split at h
      · rename_i z hz
        split at h
        · rename_i hc
          simp only [Option.some.injEq, Prod.mk.injEq] at h
          obtain ⟨rfl, rfl⟩ := h
          exact ⟨_, rfl, by rw [if_pos hc]⟩
        · cases h
      · cases h
    · cases h
  · cases h

theorem agree_live {S S2 : St} {l : List (Nat × TypeId)} (loc : Loc) : (loc ∈ [(none : Loc)] → Agree loc { S2 with live := l } { S with live := l }) ∧ (loc ∉ [(none : Loc)] → Agree loc { S2 with live := l } S2 ∧ Agree loc { S with live := l } S) := by
  constructor
  · intro h; simp at h; subst h; rfl
  · intro h
    cases loc with
    | none => simp at h
    | some id => exact ⟨rfl, rfl⟩

theorem opA_local {R : Callee} {ρ : Operand → AV} {bid : Nat} {S S1 S2 : St} {op : Op} {r : AV} (h : opA P R noC ρ bid S op = some (r, S1)) (ha : ∀ loc ∈ touchA ρ bid (effA S S1) op, Agree loc S2 S) :
    ∃ S3, opA P R noC ρ bid S2 op = some (r, S3) ∧ ∀ loc, (loc ∈ writeA ρ bid (effA S S1) op → Agree loc S3 S1) ∧ (loc ∉ writeA ρ bid (effA S S1) op → Agree loc S3 S2 ∧ Agree loc S1 S) := by
  have same : ∀ {x : Option AV}, x.map (·, S) = some (r, S1) → x.map (·, S2) = some (r, S2) ∧ S1 = S := by
    intro x hx
    cases x with
    | none => simp at hx
    | some y => simp at hx; obtain ⟨rfl, rfl⟩ := hx; exact ⟨rfl, rfl⟩
  have triv : S1 = S → writeA ρ bid (effA S S1) op = [] → ∀ loc, (loc ∈ writeA ρ bid (effA S S1) op → Agree loc S2 S1) ∧ (loc ∉ writeA ρ bid (effA S S1) op → Agree loc S2 S2 ∧ Agree loc S1 S) := by
    intro e hw loc
    subst e
    rw [hw]
    exact ⟨fun h => by simp at h, fun _ => ⟨Agree.refl _ _, Agree.refl _ _⟩⟩
  have nb : ∀ {cs : List AV}, newBox S bid cs = some (r, S1) → S2.boxes[bid]? = S.boxes[bid]? → ∃ S3, newBox S2 bid cs = some (r, S3) ∧ ∀ loc, (loc ∈ [(some bid : Loc)] → Agree loc S3 S1) ∧ (loc ∉ [(some bid : Loc)] → Agree loc S3 S2 ∧ Agree loc S1 S) := by
    intro cs hn he
    obtain ⟨hb, rfl, rfl⟩ := newBox_some hn
    rw [hb] at he
    refine ⟨_, by unfold newBox; rw [he], fun loc => ⟨fun hl => ?_, fun hl => ?_⟩⟩
    · simp at hl; subst hl
      have h1 : bid < S.boxes.length := (List.getElem?_eq_some_iff.1 hb).1
      have h2 : bid < S2.boxes.length := (List.getElem?_eq_some_iff.1 he).1
      simp [Agree, h1, h2]
    · cases loc with
      | none => exact ⟨rfl, rfl⟩
      | some id =>
        have hne : bid ≠ id := fun e => hl (by simp [e])
        simp [Agree, List.getElem?_set_ne hne]
  have wb : ∀ {b : Nat} {cs : List AV} {l : List (Nat × TypeId)} , b < S.boxes.length → S2.boxes[b]? = S.boxes[b]? → ∀ loc, (loc ∈ [(some b : Loc)] → Agree loc { S2 with boxes := S2.boxes.set b (some cs) } { S with boxes := S.boxes.set b (some cs) }) ∧ (loc ∉ [(some b : Loc)] → Agree loc { S2 with boxes := S2.boxes.set b (some cs) } S2 ∧ Agree loc { S with boxes := S.boxes.set b (some cs) } S) := by
    intro b cs _ h1 he loc
    have h2 : b < S2.boxes.length := by
      rw [List.getElem?_eq_getElem h1] at he; exact (List.getElem?_eq_some_iff.1 he).1
    refine ⟨fun hl => ?_, fun hl => ?_⟩
    · simp at hl; subst hl
      simp [Agree, h1, h2]
    · cases loc with
      | none => exact ⟨rfl, rfl⟩
      | some id =>
        have hne : b ≠ id := fun e => hl (by simp [e])
        simp [Agree, List.getElem?_set_ne hne]
  have ma : ∀ {x : AV}, (∀ loc ∈ boxOf x, Agree loc S2 S) → mapAt S2 x = mapAt S x := by
    intro x hx
    unfold mapAt
    cases x <;> first | rfl | skip
    rename_i b
    have := hx (some b) (by simp [boxOf])
    simp only [Agree] at this
    simp only [this]
  cases op <;> simp only [opA] at h ⊢
  case makeMap t r =>
    split at h
    · rename_i hr
      simp only [hr, if_true]
      unfold makeMapA at h ⊢
      split at h
      · rename_i hk
        simp only [hk, if_true]
        split at h
        · rename_i hb
          simp only [Option.some.injEq, Prod.mk.injEq] at h
          obtain ⟨rfl, rfl⟩ := h
          have hag := ha (some bid) (by simp [touchA])
          simp only [Agree] at hag
          refine ⟨_, by rw [hag, hb], fun loc => ?_⟩
          have hw : ∀ S1, writeA ρ bid (effA S S1) (.makeMap t r) = [some bid] := fun S1 => by simp [writeA, touchA]
          rw [hw]
          exact wb (l := []) (List.getElem?_eq_some_iff.1 hb).1 hag loc
        · cases h
      · cases h
    · cases h
  case lookup t x k ok =>
    have hl : lookupA P S2 t (ρ x) (ρ k) ok = lookupA P S t (ρ x) (ρ k) ok := by
      unfold lookupA
      rw [ma fun loc hl => ha loc (by simpa [touchA] using hl)]
    rw [hl]
    obtain ⟨h1, h2⟩ := same h
    exact ⟨S2, h1, triv h2 rfl⟩
  case mapUpdate t x k u =>
    have hm := ma (x := ρ x) fun loc hl => ha loc (by simpa [touchA] using hl)
    cases hs : updateA P S t (ρ x) (ρ k) (ρ u) with
    | none => simp [hs] at h
    | some S1' =>
      simp [hs] at h
      obtain ⟨rfl, rfl⟩ := h
      unfold updateA at hs ⊢
      rw [hm]
      cases hma : mapAt S (ρ x) with
      | none => simp [hma] at hs
      | some q =>
      cases hkk : keyKind P t with
      | none => simp [hma, hkk] at hs
      | some q2 =>
        obtain ⟨b, t', n, es⟩ := q
        obtain ⟨kt, et⟩ := q2
        simp only [hma, hkk] at hs ⊢
        split at hs
        · rename_i hc
          simp only [Option.some.injEq] at hs
          subst hs
          obtain ⟨hx, t2, _, hb⟩ := mapAt_some hma
          have hag := ha (some b) (by simp [touchA, hx, boxOf])
          simp only [Agree] at hag
          refine ⟨_, by rw [if_pos hc]; rfl, fun loc => ?_⟩
          have hw : ∀ S1, writeA ρ bid (effA S S1) (.mapUpdate t x k u) = [some b] := fun S1 => by simp [writeA, touchA, hx, boxOf]
          rw [hw]
          exact wb (l := []) (List.getElem?_eq_some_iff.1 hb).1 hag loc
        · cases hs
  case alloc t =>
    split at h
    · rename_i z hz
      split at h
      · rename_i hc
        simp only [hc, if_true]
        exact nb h (ha (some bid) (by simp [touchA]))
      · cases h
    · cases h
  case box t x =>
    split at h
    · rename_i hc
      simp only [hc, if_true]
      exact nb h (ha (some bid) (by simp [touchA]))
    · cases h
  case load t x =>
    have hl : loadA P S2 t (ρ x) = loadA P S t (ρ x) := by
      unfold loadA
      split
      · rename_i b o hx
        have := ha (some b) (by simp [touchA, hx, boxOf])
        simp only [Agree] at this
        rw [this]
      · rfl
      · rfl
    rw [hl]
    obtain ⟨h1, h2⟩ := same h
    exact ⟨S2, h1, triv h2 rfl⟩
  case range t x =>
    unfold rangeA at h ⊢
    split at h
    · rename_i hx
      exact nb h (ha (some bid) (by simp [touchA]))
    · cases h
  case next it s =>
    unfold nextA at h ⊢
    split at h
    · rename_i b hx
      have hag := ha (some b) (by simp [touchA, hx, boxOf])
      simp only [Agree] at hag
      simp only [hag]
      split at h
      · rename_i l p hb
        have h1 : b < S.boxes.length := (List.getElem?_eq_some_iff.1 hb).1
        have h2 : b < S2.boxes.length := by rw [hb] at hag; exact (List.getElem?_eq_some_iff.1 hag).1
        have hw : ∀ S1, writeA ρ bid (effA S S1) (.next it true) = [some b] := fun S1 => by simp [writeA, touchA, hx, boxOf]
        split at h
        · rename_i hlt
          simp only [Option.some.injEq, Prod.mk.injEq] at h
          obtain ⟨rfl, rfl⟩ := h
          refine ⟨_, by rw [if_pos hlt], fun loc => ?_⟩
          rw [hw]
          constructor
          · intro hl; simp at hl; subst hl
            simp [Agree, h1, h2]
          · intro hl
            cases loc with
            | none => exact ⟨rfl, rfl⟩
            | some id =>
              have hne : b ≠ id := fun e => hl (by simp [e])
              simp [Agree, List.getElem?_set_ne hne]
        · rename_i hlt
          simp only [Option.some.injEq, Prod.mk.injEq] at h
          obtain ⟨rfl, rfl⟩ := h
          refine ⟨_, by rw [if_neg hlt], fun loc => ?_⟩
          rw [hw]
          constructor
          · intro hl; simp at hl; subst hl
            exact hag
          · intro hl
            exact ⟨Agree.refl _ _, Agree.refl _ _⟩
      · cases h
    · cases h
  case store t x y =>
    cases hs : storeA P S t (ρ x) (ρ y) with
    | none => simp [hs] at h
    | some S1' =>
      simp [hs] at h
      obtain ⟨rfl, rfl⟩ := h
      unfold storeA at hs ⊢
      split at hs
      · rename_i b o hx
        have hag := ha (some b) (by simp [touchA, hx, boxOf])
        simp only [Agree] at hag
        simp only [hag]
        split at hs
        · rename_i cs hb
          split at hs
          · rename_i hc
            simp at hs; subst hs
            refine ⟨_, by simp only [hc, and_self, if_true]; rfl, fun loc => ?_⟩
            have h1 : b < S.boxes.length := (List.getElem?_eq_some_iff.1 hb).1
            have h2 : b < S2.boxes.length := by rw [hb] at hag; exact (List.getElem?_eq_some_iff.1 hag).1
            have hw : writeA ρ bid (effA S { boxes := S.boxes.set b (some (spliceA cs o (ρ y).cells)), live := S.live }) (.store t x y) = [some b] := by simp [writeA, touchA, hx, boxOf]
            rw [hw]
            constructor
            · intro hl; simp at hl; subst hl
              simp [Agree, h1, h2]
            · intro hl
              cases loc with
              | none => exact ⟨rfl, rfl⟩
              | some id =>
                have hne : b ≠ id := fun e => hl (by simp [e])
                simp [Agree, List.getElem?_set_ne hne]
          · cases hs
        · cases hs
      · cases hs
  case makeSlice t l c =>
    obtain ⟨l', rfl, h2⟩ := makeSliceA_local h (ha none (by simp [touchA]))
    exact ⟨_, h2, agree_live⟩
  case pick c x y =>
    split at h
    · simp at h
      obtain ⟨rfl, rfl⟩ := h
      exact ⟨S2, rfl, triv rfl rfl⟩
    · cases h
  case nilCheck x =>
    split at h
    · simp at h
      obtain ⟨rfl, rfl⟩ := h
      exact ⟨S2, rfl, triv rfl rfl⟩
    · simp at h
      obtain ⟨rfl, rfl⟩ := h
      exact ⟨S2, rfl, triv rfl rfl⟩
    · simp at h
      obtain ⟨rfl, rfl⟩ := h
      exact ⟨S2, rfl, triv rfl rfl⟩
    · cases h
  case makeFunc fn first captured =>
    split at h
    · simp at h
      obtain ⟨rfl, rfl⟩ := h
      exact ⟨S2, rfl, triv rfl rfl⟩
    · cases h
  case move x => simp at h; obtain ⟨rfl, rfl⟩ := h; exact ⟨S2, rfl, triv rfl rfl⟩
  case assign x => simp at h; obtain ⟨rfl, rfl⟩ := h; exact ⟨S2, rfl, triv rfl rfl⟩
  case extract t i =>
    split at h
    · obtain ⟨h1, h2⟩ := same h
      exact ⟨S2, h1, triv h2 rfl⟩
    · cases h
  case call c =>
    obtain ⟨callee, args, tys⟩ := c
    cases callee with
    | builtin b =>
      cases b <;> simp only at h ⊢ <;> first | (cases h; done) | skip
      case len =>
        split at h
        · obtain ⟨h1, h2⟩ := same h
          exact ⟨S2, h1, triv h2 rfl⟩
        · cases h
      case max =>
        split at h
        · obtain ⟨h1, h2⟩ := same h
          exact ⟨S2, h1, triv h2 rfl⟩
        · cases h
      case min =>
        split at h
        · obtain ⟨h1, h2⟩ := same h
          exact ⟨S2, h1, triv h2 rfl⟩
        · cases h
      case append =>
        split at h
        · obtain ⟨l', rfl, h2⟩ := appendA_local h (ha none (by simp [touchA]))
          exact ⟨_, h2, agree_live⟩
        · cases h
      case delete =>
        split at h
        · rename_i t t2 x y hts hxs
          split at h
          · rename_i hkk0
            rw [if_pos hkk0]
            have hm := ma (x := ρ x) fun loc hl => ha loc (by simpa [touchA, hxs] using hl)
            cases hs : deleteA P S t (ρ x) (ρ y) with
            | none => simp [hs] at h
            | some S1' =>
              simp [hs] at h
              obtain ⟨rfl, rfl⟩ := h
              unfold deleteA at hs ⊢
              rw [hm]
              cases hma : mapAt S (ρ x) with
              | none => simp [hma] at hs
              | some q =>
              cases hkk : keyKind P t with
              | none => simp [hma, hkk] at hs
              | some q2 =>
                obtain ⟨b, t', n, es⟩ := q
                obtain ⟨kt, et⟩ := q2
                simp only [hma, hkk] at hs ⊢
                split at hs
                · rename_i hc
                  simp only [Option.some.injEq] at hs
                  subst hs
                  obtain ⟨hx, t2, _, hb⟩ := mapAt_some hma
                  have hag := ha (some b) (by simp [touchA, hxs, hx, boxOf])
                  simp only [Agree] at hag
                  refine ⟨_, by rw [if_pos hc]; rfl, fun loc => ?_⟩
                  have hw : ∀ S1, writeA ρ bid (effA S S1) (.call ⟨.builtin .delete, args, tys⟩) = [some b] := fun S1 => by simp [writeA, touchA, hxs, hx, boxOf]
                  rw [hw]
                  exact wb (l := []) (List.getElem?_eq_some_iff.1 hb).1 hag loc
                · cases hs
          · cases h
        · cases h
    | value f =>
      simp only at h ⊢
      split at h
      · unfold callG at h ⊢
        split at h
        case isFalse => simp [noC] at h
        rename_i hcg
        simp only [hcg, if_true]
        simp only [callA, hcg, if_true] at h ⊢
        split at h
        · rename_i r0 hr
          simp at h
          obtain ⟨rfl, rfl⟩ := h
          refine ⟨S2, rfl, triv rfl ?_⟩
          simp [writeA, touchA, effA]
        · rename_i r0 p lv hr
          simp at h
          obtain ⟨rfl, rfl⟩ := h
          have he : effA S { S with live := S.live ++ p :: lv } = true := by simp [effA]
          have hl : S2.live = S.live := ha none (by simp [touchA, he])
          refine ⟨{ S2 with live := S2.live ++ p :: lv }, by rw [hl], ?_⟩
          have hw : writeA ρ bid (effA S { S with live := S.live ++ p :: lv }) (.call ⟨.value f, args, tys⟩) = [none] := by simp [writeA, touchA, he]
          rw [hw, hl]
          exact agree_live
        · cases h
      · cases h
    | invoke r m => simp at h
  all_goals first
    | (cases h; done)
    | (obtain ⟨h1, h2⟩ := same h
       exact ⟨S2, h1, triv h2 rfl⟩)
end
end Go.Abs

namespace Go.Abs
open Go.RowKit

def dirA (ops : List Oper) (i j : Nat) : Bool :=
  match ops[i]? with
  | some o => o.after.toList.any fun e => Region.binds .any e && e.on == j
  | none => false

def drawOk (ops : List Oper) : Bool :=
  ops.zipIdx.all fun (oi, i) =>
    (oi.after.toList.all fun e => !Region.binds .any e || decide (e.on < i)) &&
    ops.zipIdx.all fun (oj, j) =>
      match oj.dst with
      | some t => (i == j || oi.dst != some t) && (!(oi.looksAt ops.toArray).contains t || (decide (j < i) && dirA ops i j) || (decide (i < j) && dirA ops j i))
      | none => true

def entA (G : Glob) (ops : List Oper) (T : List AV) (bid : Nat) (S S' : St) (o : Oper) : List Loc × List Loc :=
  if guardA ops T o = some true then (touchA (evA G T) bid (effA S S') o.op, writeA (evA G T) bid (effA S S') o.op) else ([], [])

def logA (P : Program) (G : Glob) (R : Callee) (ops : List Oper) : List Oper → Nat → List AV → St → Option (List (List Loc × List Loc) × List AV × St)
  | [], _, T, S => some ([], T, S)
  | o :: l, bid, T, S =>
    match stepA P G R noC ops bid o T S with
    | some (r, S') =>
      match logA P G R ops l (nextBid o bid) (putA T o.dst r) S' with
      | some (lg, T2, S2) => some (entA G ops T bid S S' o :: lg, T2, S2)
      | none => none
    | none => none

def confOk (ops : List Oper) (lg : List (List Loc × List Loc)) : Bool :=
  lg.zipIdx.all fun (a, i) => lg.zipIdx.all fun (b, j) =>
    !(decide (i < j)) || dirA ops j i || !(a.2.any (fun x => b.1.contains x) || a.1.any (fun x => b.2.contains x))

section
variable {P : Program} {G : Glob} {N0 : Nat} {w0 : World} {I0 : Nat → Nat → Prop}

theorem logA_seq {R : Callee} {ops : List Oper} : ∀ (l : List Oper) (bid : Nat) (T : List AV) (S : St) (lg : List (List Loc × List Loc)) (T' : List AV) (S' : St), logA P G R ops l bid T S = some (lg, T', S') →
    ∃ (Ts : Nat → List AV) (Ss : Nat → St) (bs : Nat → Nat) (rs : Nat → AV), Ts 0 = T ∧ Ss 0 = S ∧ Ts l.length = T' ∧ Ss l.length = S' ∧ lg.length = l.length ∧
      ∀ (i : Nat) (o : Oper), l[i]? = some o → stepA P G R noC ops (bs i) o (Ts i) (Ss i) = some (rs i, Ss (i + 1)) ∧ Ts (i + 1) = putA (Ts i) o.dst (rs i) ∧ lg[i]? = some (entA G ops (Ts i) (bs i) (Ss i) (Ss (i + 1)) o)
  | [], bid, T, S, lg, T', S', h => by
    simp only [logA, Option.some.injEq, Prod.mk.injEq] at h
    obtain ⟨rfl, rfl, rfl⟩ := h
    exact ⟨fun _ => T, fun _ => S, fun _ => 0, fun _ => .junk, rfl, rfl, rfl, rfl, rfl, fun i o h => by simp at h⟩
  | o :: l, bid, T, S, lg, T', S', h => by
    simp only [logA] at h
    split at h
    · rename_i r S1 hs
      split at h
      · rename_i lg2 T2 S2 hl
        simp only [Option.some.injEq, Prod.mk.injEq] at h
        obtain ⟨rfl, rfl, rfl⟩ := h
        obtain ⟨Ts, Ss, bs, rs, h1, h2, h3, h4, h5, h6⟩ := logA_seq l _ _ _ _ _ _ hl
        refine ⟨fun i => match i with | 0 => T | i + 1 => Ts i, fun i => match i with | 0 => S | i + 1 => Ss i, fun i => match i with | 0 => bid | i + 1 => bs i, fun i => match i with | 0 => r | i + 1 => rs i,
          rfl, rfl, h3, h4, by simp [h5], fun i o' ho => ?_⟩
        match i, ho with
        | 0, ho =>
          simp only [List.getElem?_cons_zero, Option.some.injEq] at ho
          subst ho
          simp only [h1, h2, hs, List.getElem?_cons_zero, and_self]
        | i + 1, ho =>
          have := h6 i o' (by simpa using ho)
          simpa using this
      · cases h
    · cases h

theorem countP_lt {α : Type} {p q : α → Bool} : ∀ (l : List α), (∀ x ∈ l, q x = true → p x = true) → (∃ x ∈ l, p x = true ∧ q x = false) → l.countP q < l.countP p
  | [], _, ⟨x, hx, _⟩ => by cases hx
  | y :: l, h, ⟨x, hx, hp, hq⟩ => by
    have hle : l.countP q ≤ l.countP p := List.countP_mono_left fun z hz => h z (by simp [hz])
    rcases List.mem_cons.1 hx with rfl | hx'
    · simp [hp, hq]; omega
    · have ih := countP_lt l (fun z hz => h z (by simp [hz])) ⟨x, hx', hp, hq⟩
      have := h y (by simp)
      simp only [List.countP_cons]
      by_cases hqy : q y = true
      · simp [hqy, this hqy]; exact ih
      · simp [hqy]; omega

theorem zip_all {α : Type} {l : List α} {f : α × Nat → Bool} (h : l.zipIdx.all f = true) {i : Nat} {x : α} (hx : l[i]? = some x) : f (x, i) = true := by
  rw [List.all_eq_true] at h
  refine h (x, i) (List.mem_iff_getElem?.2 ⟨i, ?_⟩)
  rw [List.getElem?_zipIdx, hx]; simp

theorem putA_length (T : List AV) (d : Option Tmp) (r : AV) : (putA T d r).length = T.length := by cases d <;> simp [putA]

set_option maxHeartbeats 1000000 in
theorem drawA_wp {R : Callee} (hm : P.follows .mixedOrders = true) (hR : CalleeOk P G R) {ops : List Oper} (hok : drawOk ops = true) {id bid : Nat} {T T' : List AV} {S0 S' : St} {lg : List (List Loc × List Loc)}
    (hlog : logA P G R ops ops bid T S0 = some (lg, T', S')) (hconf : confOk ops lg = true) {E0 : Env} {a0 : Act} {w1 : World} (hS : SR P G N0 w0 I0 S0 E0 w1) (hT : TR E0 w1 T a0.tmps) {Q : Exit → Act → World → Prop}
    (hQ : ∀ E' w' a', SR P G N0 w0 I0 S' E' w' → Env.Le E0 E' w1 w' → TR E' w' T' a'.tmps → a'.defers = a0.defers → Q .normal a' w') : (Code.region id ops.toArray true).wp P Q a0 w1 := by
  obtain ⟨Ts, Ss, bs, rs, e1, e2, e3, e4, e5, hseq⟩ := logA_seq ops bid T S0 lg T' S' hlog
  -- what the checks say
  have ok1 : ∀ i o e, ops[i]? = some o → e ∈ o.after → Region.binds .any e = true → e.on < i := fun i o e ho he hb => by
    have := zip_all hok ho
    simp only [Bool.and_eq_true, List.all_eq_true] at this
    have h2 := this.1 e (by simpa using he)
    simpa [hb] using h2
  have ok2 : ∀ i oi j oj t, ops[i]? = some oi → ops[j]? = some oj → oj.dst = some t → (i ≠ j → oi.dst ≠ some t) ∧ (t ∈ oi.looksAt ops.toArray → (j < i ∧ dirA ops i j = true) ∨ (i < j ∧ dirA ops j i = true)) := fun i oi j oj t hi hj ht => by
    have := zip_all hok hi
    simp only [Bool.and_eq_true] at this
    have h2 := zip_all this.2 hj
    simp only [ht, Bool.and_eq_true, Bool.or_eq_true, beq_iff_eq, bne_iff_ne, ne_eq, Bool.not_eq_true'] at h2
    refine ⟨fun hne => h2.1.resolve_left hne, fun hmem => ?_⟩
    rcases h2.2 with (h3 | h3) | h3
    · have : (oi.looksAt ops.toArray).contains t = true := by simpa using hmem
      rw [this] at h3; cases h3
    · exact .inl (by simpa using h3)
    · exact .inr (by simpa using h3)
  have dir : ∀ i j, dirA ops i j = true → ∃ o e, ops[i]? = some o ∧ e ∈ o.after ∧ Region.binds .any e = true ∧ e.on = j := fun i j h => by
    unfold dirA at h
    split at h
    · rename_i o ho
      obtain ⟨e, he, hh⟩ := List.any_eq_true.1 h
      simp only [Bool.and_eq_true, beq_iff_eq] at hh
      exact ⟨o, e, ho, by simpa using he, hh.1, hh.2⟩
    · cases h
  have ok3 : ∀ i j a b loc, lg[i]? = some a → lg[j]? = some b → i < j → (loc ∈ a.2 ∧ loc ∈ b.1 ∨ loc ∈ a.1 ∧ loc ∈ b.2) → dirA ops j i = true := fun i j a b loc hi hj hlt hloc => by
    have := zip_all hconf hi
    have h2 := zip_all this hj
    simp only [hlt, decide_true, Bool.not_true, Bool.false_or, Bool.or_eq_true, Bool.not_eq_true', Bool.or_eq_false_iff] at h2
    rcases h2 with h2 | ⟨h3, h4⟩
    · exact h2
    · exfalso
      rcases hloc with ⟨x1, x2⟩ | ⟨x1, x2⟩
      · have : a.2.any (fun x => b.1.contains x) = true := List.any_eq_true.2 ⟨loc, x1, by simpa using x2⟩
        rw [this] at h3; cases h3
      · have : a.1.any (fun x => b.2.contains x) = true := List.any_eq_true.2 ⟨loc, x1, by simpa using x2⟩
        rw [this] at h4; cases h4
  have hlen : ∀ i, i ≤ ops.length → (Ts i).length = T.length := fun i => by
    induction i with
    | zero => intro _; rw [e1]
    | succ i ih =>
      intro hi
      have ho : ops[i]? = some ops[i] := List.getElem?_eq_getElem (by omega)
      rw [(hseq i _ ho).2.1, putA_length]; exact ih (by omega)
  -- a slot is written once
  have stay : ∀ t i, (∀ j oj, ops[j]? = some oj → oj.dst = some t → j < i) → ∀ k, i ≤ k → k ≤ ops.length → (Ts k)[t]? = (Ts i)[t]? := fun t i hw k => by
    induction k with
    | zero => intro h _; have : i = 0 := by omega
              subst this; rfl
    | succ k ih =>
      intro h1 h2
      rcases Nat.lt_or_ge k i with h | h
      · have : i = k + 1 := by omega
        subst this; rfl
      · have ho : ops[k]? = some ops[k] := List.getElem?_eq_getElem (by omega)
        rw [(hseq k _ ho).2.1, ← ih h (by omega)]
        unfold putA
        split
        · rename_i d hd
          have hne : d ≠ t := fun e => by
            subst e
            have := hw k _ ho hd
            omega
          rw [List.getElem?_set_ne hne]
        · rfl
  have stay0 : ∀ t i, i ≤ ops.length → (∀ j oj, ops[j]? = some oj → oj.dst = some t → i ≤ j) → (Ts i)[t]? = T[t]? := fun t i => by
    induction i with
    | zero => intro _ _; rw [e1]
    | succ i ih =>
      intro hi hw
      have ho : ops[i]? = some ops[i] := List.getElem?_eq_getElem (by omega)
      rw [(hseq i _ ho).2.1, ← ih (by omega) (fun j oj hj hd => by have := hw j oj hj hd; omega)]
      unfold putA
      split
      · rename_i d hd
        have hne : d ≠ t := fun e => by
          subst e
          have := hw i _ ho hd
          omega
        rw [List.getElem?_set_ne hne]
      · rfl
  have wrT : ∀ i o, ops[i]? = some o → (∀ loc, loc ∉ (entA G ops (Ts i) (bs i) (Ss i) (Ss (i + 1)) o).2 → Agree loc (Ss (i + 1)) (Ss i)) := fun i o ho loc hloc => by
    have hst := (hseq i o ho).1
    unfold stepA at hst
    unfold entA at hloc
    split at hst
    · rename_i hg
      rw [if_pos hg] at hloc
      obtain ⟨S3, _, h2⟩ := opA_local (S2 := Ss i) hst (fun loc _ => Agree.refl _ _)
      exact ((h2 loc).2 hloc).2
    · simp only [Option.some.injEq, Prod.mk.injEq] at hst
      rw [hst.2]; exact Agree.refl _ _
    · cases hst
  have agTrans : ∀ {loc : Loc} {A B C : St}, Agree loc A B → Agree loc B C → Agree loc A C := fun {loc A B C} h k => by
    cases loc with
    | none => exact Eq.trans h k
    | some i => exact Eq.trans h k
  have agSymm : ∀ {loc : Loc} {A B : St}, Agree loc A B → Agree loc B A := fun {loc A B} h => by
    cases loc with
    | none => exact Eq.symm h
    | some i => exact Eq.symm h
  have key : ∀ (fuel : Nat) (listed : Array Bool) (a : Act) (w : World) (S : St) (E : Env), listed.size = ops.length →
      ((List.range ops.length).countP fun i => !listed.getD i false) ≤ fuel →
      (∀ j o e, ops[j]? = some o → listed.getD j false = true → e ∈ o.after → Region.binds .any e = true → listed.getD e.on false = true) →
      T'.length = a.tmps.size → (∀ (t : Nat) (c : AV) (v : Value), T'[t]? = some c → a.tmps[t]? = some v → (∀ j oj, ops[j]? = some oj → oj.dst = some t → listed.getD j false = true) → Rep E w c v) →
      (∀ (t : Nat) (c : AV) (v : Value), T[t]? = some c → a.tmps[t]? = some v → (∀ j oj, ops[j]? = some oj → oj.dst = some t → listed.getD j false = false) → Rep E w c v) →
      (∀ (loc : Loc) (m : Nat), m ≤ ops.length → (∀ j e, lg[j]? = some e → loc ∈ e.2 → (listed.getD j false = true ↔ j < m)) → Agree loc S (Ss m)) →
      SR P G N0 w0 I0 S E w → Env.Le E0 E w1 w → a.defers = a0.defers → wpAny P .any ops.toArray Q fuel listed a w := by
    intro fuel
    induction fuel with
    | zero =>
      intro listed a w S E hsz hun hcl htz htm htm0 hmem hSR hle hdf
      have hall : ∀ j, j < ops.length → listed.getD j false = true := fun j hj => by
        have h0 : ((List.range ops.length).countP fun i => !listed.getD i false) = 0 := by omega
        rw [List.countP_eq_zero] at h0
        have := h0 j (List.mem_range.2 hj)
        simpa using this
      have hS' : S = S' := by
        obtain ⟨b, l⟩ := S
        obtain ⟨b', l'⟩ := S'
        have hfull : ∀ loc, Agree loc ⟨b, l⟩ ⟨b', l'⟩ := fun loc => by
          rw [← e4]
          exact hmem loc ops.length (Nat.le_refl _) fun j e hj _ => by
            have hj' : j < ops.length := by rw [← e5]; exact (List.getElem?_eq_some_iff.1 hj).1
            exact ⟨fun _ => hj', fun _ => hall j hj'⟩
        have hb : b = b' := List.ext_getElem? fun i => hfull (some i)
        have hl : l = l' := hfull none
        rw [hb, hl]
      subst hS'
      refine ⟨?_, hQ E w a hSR hle ⟨htz, fun t c v hc hv => htm t c v hc hv fun j oj hj _ => hall j (List.getElem?_eq_some_iff.1 hj).1⟩ hdf⟩
      cases hr : Region.ready .any ops.toArray listed with
      | nil => rfl
      | cons x xs =>
        have hx : x ∈ Region.ready .any ops.toArray listed := by rw [hr]; simp
        obtain ⟨h1, o, ho, _⟩ := mem_ready.1 hx
        have hx' : x < ops.length := by simpa using (Array.getElem?_eq_some_iff.1 ho).1
        have h2 := hall x hx'
        simp [Array.getD, hsz, hx'] at h1 h2
        rw [h1] at h2; cases h2
    | succ fuel ih =>
      intro listed a w S E hsz hun hcl htz htm htm0 hmem hSR hle hdf
      refine ⟨fun hr => ?_, fun i hi => ?_⟩
      · -- nothing is ready: all is done
        have hall : ∀ j, j < ops.length → listed.getD j false = true := fun j => by
          induction j using Nat.strongRecOn with
          | _ j ihj =>
            intro hj
            cases hL : listed.getD j false with
            | true => rfl
            | false =>
              exfalso
              have ho : ops[j]? = some ops[j] := List.getElem?_eq_getElem hj
              have : j ∈ Region.ready .any ops.toArray listed := mem_ready.2 ⟨by simp [Array.getD, hsz, hj] at hL ⊢; exact hL, ops[j], by simp, fun e he hb => by
                have hlt := ok1 j _ e ho he hb
                exact ihj e.on hlt (by omega)⟩
              rw [hr] at this; cases this
        have hS' : S = S' := by
          obtain ⟨b, l⟩ := S
          obtain ⟨b', l'⟩ := S'
          have hfull : ∀ loc, Agree loc ⟨b, l⟩ ⟨b', l'⟩ := fun loc => by
            rw [← e4]
            exact hmem loc ops.length (Nat.le_refl _) fun j e hj _ => by
              have hj' : j < ops.length := by rw [← e5]; exact (List.getElem?_eq_some_iff.1 hj).1
              exact ⟨fun _ => hj', fun _ => hall j hj'⟩
          have hb : b = b' := List.ext_getElem? fun i => hfull (some i)
          have hl : l = l' := hfull none
          rw [hb, hl]
        subst hS'
        exact hQ E w a hSR hle ⟨htz, fun t c v hc hv => htm t c v hc hv fun j oj hj _ => hall j (List.getElem?_eq_some_iff.1 hj).1⟩ hdf
      · obtain ⟨hun_i, o, ho', hready⟩ := mem_ready.1 hi
        have ho : ops[i]? = some o := by simpa using ho'
        have hin : i < ops.length := (List.getElem?_eq_some_iff.1 ho).1
        have hnot : listed.getD i false = false := by simp [Array.getD, hsz, hin] at hun_i ⊢; exact hun_i
        have hset : ∀ j, (listed.setIfInBounds i true).getD j false = (if i = j then true else listed.getD j false) := fun j => by
          by_cases hj : i = j
          · subst hj
            simp [Array.getD, hsz, hin]
          · rw [getD_set_ne false hj, if_neg hj]
        have hdirL : ∀ j, dirA ops i j = true → listed.getD j false = true := fun j hd => by
          obtain ⟨o2, e, h1, h2, h3, h4⟩ := dir i j hd
          rw [ho] at h1; injection h1 with h1; subst h1
          rw [← h4]; exact hready e h2 h3
        obtain ⟨hst, hTs, hlg⟩ := hseq i o ho
        -- the slots that it looks at are known
        have hlook : ∀ t, t ∈ o.looksAt ops.toArray → ∀ (c : AV) (v : Value), (Ts i)[t]? = some c → a.tmps[t]? = some v → Rep E w c v := fun t ht c v hc hv => by
          by_cases hB : ∃ j oj, ops[j]? = some oj ∧ oj.dst = some t ∧ i < j
          · obtain ⟨j, oj, hj, hd, hij⟩ := hB
            have uniq : ∀ k ok, ops[k]? = some ok → ok.dst = some t → k = j := fun k ok hk hdk => by
              by_cases hkj : k = j
              · exact hkj
              · exact absurd hdk ((ok2 k ok j oj t hk hj hd).1 hkj)
            rw [stay0 t i (by omega) (fun k ok hk hdk => by have := uniq k ok hk hdk; omega)] at hc
            refine htm0 t c v hc hv fun k ok hk hdk => ?_
            obtain rfl := uniq k ok hk hdk
            have hdir : dirA ops k i = true := by
              rcases (ok2 i o k oj t ho hj hd).2 ht with h | h
              · omega
              · exact h.2
            cases hL : listed.getD k false with
            | false => rfl
            | true =>
              obtain ⟨o2, e, h1, h2, h3, h4⟩ := dir k i hdir
              have := hcl k o2 e h1 hL h2 h3
              rw [h4, hnot] at this; cases this
          · have hA : ∀ j oj, ops[j]? = some oj → oj.dst = some t → j < i ∧ dirA ops i j = true := fun j oj hj hd => by
              rcases (ok2 i o j oj t ho hj hd).2 ht with h | h
              · exact h
              · exact absurd ⟨j, oj, hj, hd, h.1⟩ hB
            rw [← stay t i (fun j oj hj hd => (hA j oj hj hd).1) ops.length (by omega) (Nat.le_refl _), e3] at hc
            exact htm t c v hc hv fun j oj hj hd => hdirL j (hA j oj hj hd).2
        have hTlen : (Ts i).length = a.tmps.size := by rw [hlen i (by omega), ← htz, ← e3, hlen _ (Nat.le_refl _)]
        have hgrd : ∀ g, guardA ops (Ts i) o = some g → Region.wanted o (yielded ops.toArray a.tmps) = g := fun g hg => by
          refine guardA_run (E := E) (w := w) hg hTlen fun j want t c v hgu hd hc hv => ?_
          have hmem : t ∈ o.looksAt ops.toArray := by
            unfold Oper.looksAt
            refine List.mem_append_right _ ?_
            rw [hgu]
            simp [hd]
          exact hlook t hmem c v hc hv
        -- what holds behind it
        have next : ∀ (a' : Act) (w' : World) (S3 : St) (E' : Env) (r : AV) (v : Value), a' = a.put o.dst v → r = rs i → SR P G N0 w0 I0 S3 E' w' → Env.Le E E' w w' → Rep E' w' r v →
            (∀ loc, (loc ∈ (entA G ops (Ts i) (bs i) (Ss i) (Ss (i + 1)) o).2 → Agree loc S3 (Ss (i + 1))) ∧ (loc ∉ (entA G ops (Ts i) (bs i) (Ss i) (Ss (i + 1)) o).2 → Agree loc S3 S)) →
            wpAny P .any ops.toArray Q fuel (listed.setIfInBounds i true) a' w' := by
          intro a' w' S3 E' r v ha hr hSR' hle' hrep hS3
          subst ha; subst hr
          refine ih _ _ _ S3 E' (by simpa using hsz) ?_ (fun j oj e hj hL he hb => ?_) ?_ (fun t c u hc hu hw => ?_) (fun t c u hc hu hw => ?_) (fun loc m hm hw => ?_) hSR' (hle.trans hle') ((put_defers _ _ _).trans hdf)
          · have := countP_lt (p := fun i => !listed.getD i false) (q := fun j => !(listed.setIfInBounds i true).getD j false) (List.range ops.length) (fun x _ hx => by
              simp only [hset] at hx
              split at hx
              · cases hx
              · exact hx) ⟨i, List.mem_range.2 hin, by simpa using hnot, by simp [hset]⟩
            omega
          · rw [hset] at hL ⊢
            split
            · rfl
            · split at hL
              · rename_i h1 h2
                subst h2
                rw [ho] at hj; injection hj with hj; subst hj
                exact hready e he hb
              · exact hcl j oj e hj hL he hb
          · rw [htz]; cases o.dst <;> simp [Act.put]
          · -- slots
            by_cases hd : o.dst = some t
            · have htl : t < T'.length := (List.getElem?_eq_some_iff.1 hc).1
              have h1 : T'[t]? = some (rs i) := by
                rw [← e3]
                have h2 := stay t (i + 1) (fun j oj hj hdj => by
                  by_cases hji : j = i
                  · omega
                  · exact absurd hd ((ok2 i o j oj t ho hj hdj).1 (Ne.symm hji))) ops.length (by omega) (Nat.le_refl _)
                rw [h2, hTs]
                simp only [putA, hd]
                rw [List.getElem?_set_self (by rw [hlen i (by omega)]; rw [← e3, hlen _ (Nat.le_refl _)] at htl; exact htl)]
              rw [h1] at hc; injection hc with hc; subst hc
              have h2 : (a.put o.dst v).tmps[t]? = some v := by
                simp only [Act.put, hd]
                rw [Array.getElem?_setIfInBounds]
                simp [← htz, htl]
              rw [h2] at hu; injection hu with hu; subst hu
              exact hrep
            · have h2 : (a.put o.dst v).tmps[t]? = a.tmps[t]? := by
                cases hdd : o.dst with
                | none => rfl
                | some d =>
                  have hne : d ≠ t := fun e => hd (by rw [hdd, e])
                  simp only [Act.put]
                  rw [Array.getElem?_setIfInBounds_ne hne]
              rw [h2] at hu
              refine (htm t c u hc hu fun j oj hj hdj => ?_).le hle'
              have := hw j oj hj hdj
              rw [hset] at this
              split at this
              · rename_i h3
                subst h3
                rw [ho] at hj; injection hj with hj; subst hj
                exact absurd hdj hd
              · exact this
          · -- slots that are as they were
            have hd : o.dst ≠ some t := fun hd => by
              have := hw i o ho hd
              rw [hset, if_pos rfl] at this; cases this
            have h2 : (a.put o.dst v).tmps[t]? = a.tmps[t]? := by
              cases hdd : o.dst with
              | none => rfl
              | some d =>
                have hne : d ≠ t := fun e => hd (by rw [hdd, e])
                simp only [Act.put]
                rw [Array.getElem?_setIfInBounds_ne hne]
            rw [h2] at hu
            refine (htm0 t c u hc hu fun j oj hj hdj => ?_).le hle'
            have := hw j oj hj hdj
            rw [hset] at this
            split at this
            · cases this
            · exact this
          · -- memory
            by_cases hin' : loc ∈ (entA G ops (Ts i) (bs i) (Ss i) (Ss (i + 1)) o).2
            · have him : i < m := by
                have := (hw i _ hlg hin')
                rw [hset, if_pos rfl] at this
                exact this.1 rfl
              have hno : ∀ k, i < k → k < m → ∀ e, lg[k]? = some e → loc ∉ e.2 := fun k hik hkm e he hloc => by
                have hL := (hw k e he hloc).2 hkm
                rw [hset, if_neg (by omega)] at hL
                have hd := ok3 i k _ e loc hlg he hik (.inr ⟨by
                  have h5 : loc ∈ (entA G ops (Ts i) (bs i) (Ss i) (Ss (i + 1)) o).2 := hin'
                  unfold entA at h5 ⊢
                  split at h5
                  · rename_i hg
                    simp only at h5 ⊢
                    unfold writeA at h5
                    rw [if_pos hg]
                    split at h5 <;> first | (simp at h5; done) | exact h5
                  · simp at h5, hloc⟩)
                obtain ⟨o2, e', h1, h2, h3, h4⟩ := dir k i hd
                have := hcl k o2 e' h1 hL h2 h3
                rw [h4, hnot] at this; cases this
              have hsteps : ∀ k, i + 1 ≤ k → k ≤ m → Agree loc (Ss k) (Ss (i + 1)) := fun k => by
                induction k with
                | zero => intro h _; omega
                | succ k ihk =>
                  intro h1 h2
                  rcases Nat.lt_or_ge i k with h3 | h3
                  · have hok2 : ops[k]? = some ops[k] := List.getElem?_eq_getElem (by omega)
                    exact agTrans (wrT k _ hok2 loc (hno k h3 (by omega) _ (hseq k _ hok2).2.2)) (ihk (by omega) (by omega))
                  · have : k = i := by omega
                    subst this; exact Agree.refl _ _
              exact agTrans ((hS3 loc).1 hin') (agSymm (hsteps m (by omega) (Nat.le_refl _)))
            · exact agTrans ((hS3 loc).2 hin') (hmem loc m hm fun j e hj hloc => by
                have hji : i ≠ j := fun e' => by
                  subst e'
                  rw [hlg] at hj; injection hj with hj; subst hj
                  exact hin' hloc
                have := hw j e hj hloc
                rw [hset, if_neg hji] at this
                exact this)
        unfold stepA at hst
        unfold wpOp
        simp only [List.getElem?_toArray, ho]
        split at hst
        · rename_i hg
          rw [hgrd true hg]
          simp only [if_true]
          -- known slots alone
          let Tk : List AV := (List.range T'.length).map fun t => if (o.looksAt ops.toArray).contains t then (Ts i).getD t (.tup []) else .junk
          have hTil : (Ts i).length = T'.length := by rw [hTlen, htz]
          have hTk : TR E w Tk a.tmps := by
            refine ⟨by simp [Tk, htz], fun t c v hc hv => ?_⟩
            simp only [Tk, List.getElem?_map] at hc
            by_cases ht : t < T'.length
            · rw [List.getElem?_range ht] at hc
              simp only [Option.map_some, Option.some.injEq] at hc
              subst hc
              split
              · rename_i hk
                refine hlook t (by simpa using hk) _ v ?_ hv
                rw [List.getD_eq_getElem?_getD, List.getElem?_eq_getElem (by omega)]; rfl
              · exact .junk v
            · rw [List.getElem?_eq_none (by simpa using ht)] at hc; cases hc
          have hev : ∀ x ∈ o.op.operands, evA G (Ts i) x = evA G Tk x := fun x hx => by
            cases x with
            | tmp t =>
              have hmem : t ∈ o.looksAt ops.toArray := by
                unfold Oper.looksAt
                exact List.mem_append_left _ (List.mem_filterMap.2 ⟨.tmp t, by simpa using hx, rfl⟩)
              have hc : (o.looksAt ops.toArray).contains t = true := by simpa using hmem
              simp only [evA, List.getD_eq_getElem?_getD]
              simp only [Tk, List.getElem?_map]
              by_cases ht : t < T'.length
              · rw [List.getElem?_range ht]
                simp only [Option.map_some, Option.getD_some]
                rw [if_pos hc, List.getD_eq_getElem?_getD]
              · have hz : (Ts i)[t]? = none := List.getElem?_eq_none (by rw [hTil]; exact Nat.le_of_not_lt ht)
                have hz2 : (List.range T'.length)[t]? = none := List.getElem?_eq_none (by simpa using ht)
                rw [hz, hz2]; rfl
            | _ => rfl
          have htouch : ∀ loc ∈ touchA (evA G (Ts i)) (bs i) (effA (Ss i) (Ss (i + 1))) o.op, Agree loc S (Ss i) := fun loc hloc => by
            refine hmem loc i (by omega) fun j e hj hlw => ?_
            have hlgt : loc ∈ (entA G ops (Ts i) (bs i) (Ss i) (Ss (i + 1)) o).1 := by unfold entA; rw [if_pos hg]; exact hloc
            constructor
            · intro hL
              rcases Nat.lt_trichotomy j i with h | h | h
              · exact h
              · subst h; rw [hnot] at hL; cases hL
              · have hd := ok3 i j _ e loc hlg hj h (.inr ⟨hlgt, hlw⟩)
                obtain ⟨o2, e', h1, h2, h3, h4⟩ := dir j i hd
                have := hcl j o2 e' h1 hL h2 h3
                rw [h4, hnot] at this; cases this
            · intro hlt
              exact hdirL j (ok3 j i e _ loc hj hlg hlt (.inl ⟨hlw, hlgt⟩))
          obtain ⟨S3, hop, hS3⟩ := opA_local hst htouch
          rw [opA_congr hev] at hop
          refine .inl (op_wp hR noC_ok hSR hTk hop fun E' w' v h1 h2 h3 => ?_)
          refine next _ w' S3 E' _ v rfl rfl h1 h2 h3 fun loc => ?_
          unfold entA
          rw [if_pos hg]
          exact ⟨(hS3 loc).1, fun hn => ((hS3 loc).2 hn).1⟩
        · rename_i hg
          rw [hgrd false hg]
          simp only [Bool.false_eq_true, if_false]
          simp only [Option.some.injEq, Prod.mk.injEq] at hst
          refine next _ w S E _ undef rfl rfl hSR (Env.Le.refl _ _) (by rw [← hst.1]; exact rep_undef) fun loc => ?_
          unfold entA
          rw [if_neg (by rw [hg]; simp)]
          exact ⟨fun h => by simp at h, fun _ => Agree.refl _ _⟩
        · cases hst
  refine wp_region_any hm ?_
  obtain ⟨hS1, hL1⟩ := hS.ext (w' := w1.drew) (below_drew w1) (I' := E0.I) (fun _ _ h => h) (fun _ _ h => .inl h)
  refine key ops.toArray.size (Array.replicate ops.toArray.size false) a0 w1.drew S0 E0 (by simp) (Nat.le_trans List.countP_le_length (by simp)) (fun j o e _ hL => by simp [Array.getD] at hL) (by rw [← e3, hlen _ (Nat.le_refl _)]; exact hT.1) (fun t c v hc hv hw => ?_) (fun t c v hc hv _ => (hT.2 t c v hc hv).le hL1) (fun loc m hm' hw => ?_) hS1 hL1 rfl
  · have hnw : ∀ j oj, ops[j]? = some oj → oj.dst = some t → j < 0 := fun j oj hj hd => by
      have := hw j oj hj hd
      simp [Array.getD] at this
    rw [← e3, stay t 0 hnw ops.length (by omega) (Nat.le_refl _), e1] at hc
    exact (hT.2 t c v hc hv).le hL1
  · have hsteps : ∀ k, k ≤ m → Agree loc (Ss k) (Ss 0) := fun k => by
      induction k with
      | zero => intro _; exact Agree.refl _ _
      | succ k ihk =>
        intro h1
        have hok2 : ops[k]? = some ops[k] := List.getElem?_eq_getElem (by omega)
        refine agTrans (wrT k _ hok2 loc fun hloc => ?_) (ihk (by omega))
        have := (hw k _ (hseq k _ hok2).2.2 hloc).2 (by omega)
        simp [Array.getD] at this
    rw [← e2]
    exact agSymm (hsteps m (Nat.le_refl _))
end
end Go.Abs

namespace Go.Abs
open Go.RowKit

inductive AExit where
  | normal
  | exit (id : Nat)
  | goto (l : Nat)
  | ret

def AExit.to : AExit → Exit
  | .normal => .normal
  | .exit id => .exit id
  | .goto l => .goto l
  | .ret => .ret

abbrev ARes := Option (AExit × List AV × St)
abbrev AStep := List AV → St → ARes

def regionA (P : Program) (G : Glob) (R : Callee) (C : ICallee) (ops : List Oper) (draw : Bool) (T : List AV) (S : St) : Option (List AV × St) :=
  if draw then
    if drawOk ops then
      match logA P G R ops ops S.boxes.length T (roomFor ops S) with
      | some (lg, T', S') => if confOk ops lg then some (T', S') else none
      | none => none
    else none
  else listA P G R C ops ops S.boxes.length T (roomFor ops S)

/-- slots that are not read again are forgotten -/
def maskA : List Bool → List AV → List AV
  | true :: m, c :: T => c :: maskA m T
  | false :: m, _ :: T => .junk :: maskA m T
  | _, T => T

structure Loops where
  loop : AStep → AStep
  scope : AStep → (Nat → Option AStep) → AStep

def seqA (r : ARes) (k : AStep) : ARes :=
  match r with
  | some (.normal, T, S) => k T S
  | r => r
def blockA (id : Nat) (r : ARes) : ARes :=
  match r with
  | some (.exit id', T, S) => if id' = id then some (.normal, T, S) else some (.exit id', T, S)
  | r => r

mutual
def codeA (P : Program) (G : Glob) (R : Callee) (C : ICallee) (L : Loops) (m : List Bool) : Code → AStep
  | .skip => fun T S => some (.normal, T, S)
  | .region _ ops draw => fun T S =>
    match regionA P G R C ops.toList draw T S with
    | some (T', S') => some (.normal, maskA m T', S')
    | none => none
  | .seq a b => fun T S => seqA (codeA P G R C L m a T S) (codeA P G R C L m b)
  | .cond c x y => fun T S =>
    match evA G T c with
    | .bool true => codeA P G R C L m x T S
    | .bool false => codeA P G R C L m y T S
    | _ => none
  | .block id b => fun T S => blockA id (codeA P G R C L m b T S)
  | .loop b => L.loop (codeA P G R C L m b)
  | .exit id => fun T S => some (.exit id, T, S)
  | .scope b => L.scope (codeA P G R C L m b) (fromA P G R C L m b)
  | .label _ => fun T S => some (.normal, T, S)
  | .goto l => fun T S => some (.goto l, T, S)
  | .ret => fun T S => some (.ret, T, S)
  | .rangeFunc .. => fun _ _ => none
  | .refuse _ => fun _ _ => none
/-- what stands behind a label -/
def fromA (P : Program) (G : Glob) (R : Callee) (C : ICallee) (L : Loops) (m : List Bool) : Code → Nat → Option AStep
  | .seq a b => fun l =>
    match fromA P G R C L m a l with
    | some f => some fun T S => seqA (f T S) (codeA P G R C L m b)
    | none => fromA P G R C L m b l
  | .label l' => fun l => if l' == l then some fun T S => some (.normal, T, S) else none
  | _ => fun _ => none
end

def iterA : Nat → AStep → AStep
  | 0, _ => fun _ _ => none
  | n + 1, f => fun T S => seqA (f T S) (iterA n f)
def scopeA : Nat → AStep → (Nat → Option AStep) → AStep
  | 0, _, _ => fun _ _ => none
  | n + 1, f, k => fun T S =>
    match f T S with
    | some (.goto l, T', S') =>
      match k l with
      | some g => scopeA n g k T' S'
      | none => some (.goto l, T', S')
    | r => r
def fuelL (n : Nat) : Loops := ⟨iterA n, scopeA n⟩

def resultA (P : Program) (T : List AV) (S : St) : ResultVar → Option AV
  | .tmp t => some (T.getD t (.tup []))
  | .cell a t =>
    match T.getD a (.tup []) with
    | .ptr b o => loadA P S t (.ptr b o)
    | _ => none
def resultsA (P : Program) (T : List AV) (S : St) : List ResultVar → Option (List AV)
  | [] => some []
  | r :: l =>
    match resultA P T S r with
    | some v =>
      match resultsA P T S l with
      | some vs => some (v :: vs)
      | none => none
    | none => none
def packA : List AV → AV
  | [v] => v
  | vs => .tup vs

/-- the result, in numbers of its own -/
def normA (live : List (Nat × TypeId)) : AV → Option (AV × List (Nat × TypeId))
  | .sl sz es (.tok t) =>
    match live[t]? with
    | some (n, e) => if n = es.length then some (.sl sz es (.tok 0), [(n, e)]) else some (.sl sz es .no, [])
    | none => none
  | .tup (.sl sz es (.tok t) :: vs) =>
    if (vs.map AV.strip1).all AV.closed1 then
      match live[t]? with
      | some (n, e) => if n = es.length then some (.tup (.sl sz es (.tok 0) :: vs.map AV.strip1), [(n, e)]) else some (.tup (.sl sz es .no :: vs.map AV.strip1), [])
      | none => none
    else none
  | .tup vs => if (vs.map AV.strip1).all AV.closed1 then some (.tup (vs.map AV.strip1), []) else none
  | r => if r.strip1.closed1 then some (r.strip1, []) else none

/-- what may point to variables below n alone -/
def AV.p0 (n : Nat) : AV → Bool
  | .ptr b _ => decide (b < n)
  | .mp b => decide (b < n)
  | .fn _ cap => cap.isEmpty
  | .agg _ | .tup _ => false
  | _ => true
def AV.p1 (n : Nat) : AV → Bool
  | .fn _ cap => cap.all (AV.p0 n)
  | .agg cs => cs.all (AV.p0 n)
  | v => v.p0 n
def AV.p2 (n : Nat) : AV → Bool
  | .tup vs => vs.all (AV.p1 n)
  | .agg cs => cs.all (AV.p1 n)
  | v => v.p1 n

def runA (P : Program) (G : Glob) (R : Callee) (C : ICallee) (L : Loops) (hint : FuncId → List Bool) (f : FuncId) (args : List AV) (S : St) : Option (AV × St) :=
  match P.funcs[f]? with
  | none => none
  | some fn =>
    match fn.body with
    | none => none
    | some c =>
      if fn.name == "runtime.NumGoroutine" then none else
      match codeA P G R C L (hint f) c (args ++ List.replicate (fn.ntmps - args.length) (.tup [])) S with
      | some (.normal, T, S') | some (.ret, T, S') =>
        match resultsA P T S' fn.results.toList with
        | some vs => some (packA vs, S')
        | none => none
      | _ => none

def funcA (P : Program) (G : Glob) (R : Callee) (C : ICallee) (L : Loops) (hint : FuncId → List Bool) (f : FuncId) (args : List AV) : Option (AV × List (Nat × TypeId)) :=
  match runA P G R C L hint f args ⟨[], []⟩ with
  | some (r, S) => normA S.live r
  | none => none

def boxesOk (n : Nat) : List (Option (List AV)) → Bool
  | [] => true
  | some cs :: l => (!isRow cs || cs.all (AV.p1 n)) && boxesOk n l
  | none :: l => boxesOk n l

def funcI (P : Program) (G : Glob) (R : Callee) (C : ICallee) (L : Loops) (hint : FuncId → List Bool) (f : FuncId) (args : List AV) (S : St) : Option (AV × St) :=
  match runA P G R C L hint f args S with
  | some (r, S') =>
    if r.p2 S.boxes.length && boxesOk S.boxes.length (S'.boxes.take S.boxes.length) then some (r, { S' with boxes := S'.boxes.take S.boxes.length }) else none
  | none => none

/-- what is known of some functions, else the evaluator -/
def orA (R0 R : Callee) : Callee := fun f args =>
  match R0 f args with
  | some r => some r
  | none => R f args

def evs (P : Program) (G : Glob) (R0 : Callee) (hint : FuncId → List Bool) : Nat → Callee × ICallee
  | 0 => (R0, noC)
  | n + 1 => (orA R0 (funcA P G (evs P G R0 hint n).1 (evs P G R0 hint n).2 (fuelL n) hint), funcI P G (evs P G R0 hint n).1 (evs P G R0 hint n).2 (fuelL n) hint)

section
variable {P : Program} {G : Glob} {N0 : Nat} {w0 : World} {I0 : Nat → Nat → Prop}

theorem TR.mask {E : Env} {w : World} : ∀ (m : List Bool) (T : List AV) (tm : List Value), (T.length = tm.length ∧ ∀ (i : Nat) (c : AV) (v : Value), T[i]? = some c → tm[i]? = some v → Rep E w c v) →
    (maskA m T).length = tm.length ∧ ∀ (i : Nat) (c : AV) (v : Value), (maskA m T)[i]? = some c → tm[i]? = some v → Rep E w c v
  | [], T, tm, h => by simpa [maskA] using h
  | b :: m, [], tm, h => by cases b <;> simpa [maskA] using h
  | b :: m, c :: T, [], h => by have := h.1; simp at this
  | b :: m, c :: T, v :: tm, h => by
    obtain ⟨h1, h2⟩ := TR.mask m T tm ⟨by simpa using h.1, fun i c v hi hv => h.2 (i + 1) c v (by simpa using hi) (by simpa using hv)⟩
    cases b
    · refine ⟨by simp [maskA, h1], fun i c' v' hi hv => ?_⟩
      match i, hi, hv with
      | 0, hi, hv => simp [maskA] at hi; subst hi; exact .junk _
      | i + 1, hi, hv => exact h2 i c' v' (by simpa [maskA] using hi) (by simpa using hv)
    · refine ⟨by simp [maskA, h1], fun i c' v' hi hv => ?_⟩
      match i, hi, hv with
      | 0, hi, hv => exact h.2 0 c' v' (by simpa [maskA] using hi) (by simpa using hv)
      | i + 1, hi, hv => exact h2 i c' v' (by simpa [maskA] using hi) (by simpa using hv)
theorem TR.mask' {E : Env} {w : World} {T : List AV} {tm : Array Value} (h : TR E w T tm) (m : List Bool) : TR E w (maskA m T) tm := by
  obtain ⟨h1, h2⟩ := TR.mask m T tm.toList ⟨by simpa using h.1, fun i c v hi hv => h.2 i c v hi (by simpa using hv)⟩
  exact ⟨by simpa using h1, fun i c v hi hv => h2 i c v hi (by simpa using hv)⟩

/-- what is shown of a piece of code -/
def StepOk (P : Program) (G : Glob) (N0 : Nat) (w0 : World) (I0 : Nat → Nat → Prop) (f : AStep) (c : Code) : Prop :=
  ∀ (T : List AV) (S : St) (x : AExit) (T' : List AV) (S' : St) (E : Env) (a : Act) (w : World) (Q : Exit → Act → World → Prop), f T S = some (x, T', S') → SR P G N0 w0 I0 S E w → TR E w T a.tmps →
    (∀ E' w' a', SR P G N0 w0 I0 S' E' w' → Env.Le E E' w w' → TR E' w' T' a'.tmps → a'.defers = a.defers → Q x.to a' w') → c.wp P Q a w

theorem regionA_wp {R : Callee} {C : ICallee} (hm : P.follows .mixedOrders = true) (hR : CalleeOk P G R) (hC : ICalleeOk P G C) {id : Nat} {ops : Array Oper} {draw : Bool} {m : List Bool} :
    StepOk P G N0 w0 I0 (fun T S => match regionA P G R C ops.toList draw T S with | some (T', S') => some (.normal, maskA m T', S') | none => none) (.region id ops draw) := by
  intro T S x T' S' E a w Q h hS hT hQ
  dsimp only at h
  split at h
  · rename_i T1 S1 hr
    simp only [Option.some.injEq, Prod.mk.injEq] at h
    obtain ⟨rfl, rfl, rfl⟩ := h
    unfold regionA at hr
    split at hr
    · rename_i hd
      subst hd
      split at hr
      · rename_i hok
        split at hr
        · rename_i lg T2 S2 hlog
          split at hr
          · rename_i hc
            simp only [Option.some.injEq, Prod.mk.injEq] at hr
            obtain ⟨rfl, rfl⟩ := hr
            have := drawA_wp (id := id) hm hR hok hlog hc (hS.roomFor ops.toList) hT (Q := Q) fun E' w' a' h1 h2 h3 h4 => hQ E' w' a' h1 h2 (h3.mask' m) h4
            simpa using this
          · cases hr
        · cases hr
      · cases hr
    · rename_i hd
      have hd' : draw = false := by simpa using hd
      subst hd'
      refine wp_region_list ?_
      have := listA_wp (P := P) (G := G) (N0 := N0) (w0 := w0) (I0 := I0) hR hC (Q := Q) ops.toList _ T T1 _ S1 E a w (hS.roomFor ops.toList) hT hr fun E' w' a' h1 h2 h3 h4 => hQ E' w' a' h1 h2 (h3.mask' m) h4
      simpa using this
  · cases h

theorem seqA_wp {f g : AStep} {c d : Code} (hf : StepOk P G N0 w0 I0 f c) (hg : StepOk P G N0 w0 I0 g d) : StepOk P G N0 w0 I0 (fun T S => seqA (f T S) g) (.seq c d) := by
  intro T S x T' S' E a w Q h hS hT hQ
  dsimp only at h
  unfold seqA at h
  split at h
  · rename_i T1 S1 h1
    exact wp_seq (hf _ _ _ _ _ E a w _ h1 hS hT fun E' w' a' k1 k2 k3 k4 => hg _ _ _ _ _ E' a' w' Q h k1 k3 fun E2 w2 a2 l1 l2 l3 l4 => hQ E2 w2 a2 l1 (k2.trans l2) l3 (l4.trans k4))
  · rename_i hne
    refine wp_seq (hf _ _ _ _ _ E a w _ h hS hT fun E' w' a' k1 k2 k3 k4 => ?_)
    have := hQ E' w' a' k1 k2 k3 k4
    cases x with
    | normal => exact absurd h (hne _ _)
    | exit id => exact this
    | goto l => exact this
    | ret => exact this

theorem blockA_wp {f : AStep} {c : Code} {id : Nat} (hf : StepOk P G N0 w0 I0 f c) : StepOk P G N0 w0 I0 (fun T S => blockA id (f T S)) (.block id c) := by
  intro T S x T' S' E a w Q h hS hT hQ
  dsimp only at h
  unfold blockA at h
  split at h
  · rename_i id' T1 S1 h1
    refine wp_block (hf _ _ _ _ _ E a w _ h1 hS hT fun E' w' a' k1 k2 k3 k4 => ?_)
    show (if id' = id then Q .normal a' w' else Q (.exit id') a' w')
    split at h
    · rename_i hid
      simp only [Option.some.injEq, Prod.mk.injEq] at h
      obtain ⟨rfl, rfl, rfl⟩ := h
      rw [if_pos hid]; exact hQ E' w' a' k1 k2 k3 k4
    · rename_i hid
      simp only [Option.some.injEq, Prod.mk.injEq] at h
      obtain ⟨rfl, rfl, rfl⟩ := h
      rw [if_neg hid]; exact hQ E' w' a' k1 k2 k3 k4
  · rename_i hne
    refine wp_block (hf _ _ _ _ _ E a w _ h hS hT fun E' w' a' k1 k2 k3 k4 => ?_)
    have := hQ E' w' a' k1 k2 k3 k4
    cases x with
    | exit id' => exact absurd h (hne _ _ _)
    | normal => exact this
    | goto l => exact this
    | ret => exact this

theorem iterA_wp {f : AStep} {c : Code} (hf : StepOk P G N0 w0 I0 f c) (n : Nat) : StepOk P G N0 w0 I0 (iterA n f) (.loop c) := by
  intro T S x T' S' E a w Q h hS hT hQ
  refine wp_loop_rounds n ?_
  have key : ∀ (n : Nat) (T : List AV) (S : St) (E : Env) (a : Act) (w : World), iterA n f T S = some (x, T', S') → SR P G N0 w0 I0 S E w → TR E w T a.tmps →
      (∀ E' w' a', SR P G N0 w0 I0 S' E' w' → Env.Le E E' w w' → TR E' w' T' a'.tmps → a'.defers = a.defers → Q x.to a' w') → Code.rounds P c Q n a w := by
    intro n
    induction n with
    | zero => intro T S E a w h; simp [iterA] at h
    | succ n ih =>
      intro T S E a w h hS hT hQ
      rw [rounds_succ]
      simp only [iterA] at h
      unfold seqA at h
      split at h
      · rename_i T1 S1 h1
        exact hf _ _ _ _ _ E a w _ h1 hS hT fun E' w' a' k1 k2 k3 k4 => ih _ _ E' a' w' h k1 k3 fun E2 w2 a2 l1 l2 l3 l4 => hQ E2 w2 a2 l1 (k2.trans l2) l3 (l4.trans k4)
      · rename_i hne
        refine hf _ _ _ _ _ E a w _ h hS hT fun E' w' a' k1 k2 k3 k4 => ?_
        have := hQ E' w' a' k1 k2 k3 k4
        cases x with
        | normal => exact absurd h (hne _ _)
        | exit id => exact this
        | goto l => exact this
        | ret => exact this
  exact key n T S E a w h hS hT hQ

/-- rounds of a scope -/
def srounds (P : Program) (b : Code) (Q : Exit → Act → World → Prop) : Nat → Code → Act → World → Prop
  | 0, _, _, _ => False
  | n + 1, c, a, w => c.wp P (fun e a' w' => match e with
    | .goto l => match findLabel b l with
      | some rest => srounds P b Q n rest a' w'
      | none => Q (.goto l) a' w'
    | e => Q e a' w') a w

theorem wp_scope_rounds {b : Code} {Q : Exit → Act → World → Prop} {a : Act} {w : World} (n : Nat) (h : srounds P b Q n b a w) : (Code.scope b).wp P Q a w := by
  intro fr k cs
  have key : ∀ n c a w, srounds P b Q n c a w → ∃ e a' w', Q e a' w' ∧ Arrives P (lone (fr.at a (.code c :: .inScope b :: k)) cs w) fr k cs e a' w' := by
    intro n
    induction n with
    | zero => intro c a w h; exact h.elim
    | succ n ih =>
      intro c a w h
      obtain ⟨e, a₁, w₁, hq, harr⟩ := h fr (.inScope b :: k) cs
      cases e with
      | normal => exact ⟨.normal, a₁, w₁, hq, Steps.trans harr (.one step_inScope)⟩
      | exit id => exact ⟨.exit id, a₁, w₁, hq, fun k' hk => harr k' (by simp [exitTo, hk])⟩
      | goto l =>
        simp only at hq
        split at hq
        · rename_i rest hr
          obtain ⟨e₂, a₂, w₂, hq₂, harr₂⟩ := ih rest a₁ w₁ hq
          exact ⟨e₂, a₂, w₂, hq₂, .of_steps (harr _ (by simp [gotoIn, hr])) harr₂⟩
        · rename_i hr
          exact ⟨.goto l, a₁, w₁, hq, fun k' hk => harr k' (by simp [gotoIn, hr, hk])⟩
      | ret => exact ⟨_, a₁, w₁, hq, harr⟩
      | panic ch => exact ⟨_, a₁, w₁, hq, harr⟩
      | outgrown => exact ⟨_, a₁, w₁, hq, harr⟩
  obtain ⟨e, a', w', hq, harr⟩ := key n b a w h
  exact ⟨e, a', w', hq, .of_steps (.one step_scope) harr⟩

theorem scopeA_wp {b : Code} {k : Nat → Option AStep} (hk : ∀ l, (∀ g, k l = some g → ∃ rest, findLabel b l = some rest ∧ StepOk P G N0 w0 I0 g rest) ∧ (k l = none → findLabel b l = none)) {f : AStep} (hf : StepOk P G N0 w0 I0 f b) (n : Nat) :
    StepOk P G N0 w0 I0 (scopeA n f k) (.scope b) := by
  intro T S x T' S' E a w Q h hS hT hQ
  refine wp_scope_rounds n ?_
  have key : ∀ (n : Nat) (f : AStep) (c : Code) (T : List AV) (S : St) (E : Env) (a : Act) (w : World), StepOk P G N0 w0 I0 f c → scopeA n f k T S = some (x, T', S') → SR P G N0 w0 I0 S E w → TR E w T a.tmps →
      (∀ E' w' a', SR P G N0 w0 I0 S' E' w' → Env.Le E E' w w' → TR E' w' T' a'.tmps → a'.defers = a.defers → Q x.to a' w') → srounds P b Q n c a w := by
    intro n
    induction n with
    | zero => intro f c T S E a w _ h; simp [scopeA] at h
    | succ n ih =>
      intro f c T S E a w hf h hS hT hQ
      simp only [scopeA] at h
      split at h
      · rename_i l T1 S1 h1
        refine hf _ _ _ _ _ E a w _ h1 hS hT fun E' w' a' k1 k2 k3 k4 => ?_
        simp only [AExit.to]
        split at h
        · rename_i g hg
          obtain ⟨rest, hr, hgo⟩ := (hk l).1 g hg
          rw [hr]
          exact ih g rest _ _ E' a' w' hgo h k1 k3 fun E2 w2 a2 l1 l2 l3 l4 => hQ E2 w2 a2 l1 (k2.trans l2) l3 (l4.trans k4)
        · rename_i hg
          rw [(hk l).2 hg]
          simp only [Option.some.injEq, Prod.mk.injEq] at h
          obtain ⟨rfl, rfl, rfl⟩ := h
          exact hQ E' w' a' k1 k2 k3 k4
      · rename_i hne
        refine hf _ _ _ _ _ E a w _ h hS hT fun E' w' a' k1 k2 k3 k4 => ?_
        have := hQ E' w' a' k1 k2 k3 k4
        cases x with
        | goto l => exact absurd h (hne _ _ _)
        | normal => exact this
        | exit id => exact this
        | ret => exact this
  exact key n f b T S E a w hf h hS hT hQ

theorem skip_ok (x : AExit) (c : Code) (h : ∀ (Q : Exit → Act → World → Prop) (a : Act) (w : World), Q x.to a w → c.wp P Q a w) : StepOk P G N0 w0 I0 (fun T S => some (x, T, S)) c := by
  intro T S x' T' S' E a w Q hh hS hT hQ
  simp only [Option.some.injEq, Prod.mk.injEq] at hh
  obtain ⟨rfl, rfl, rfl⟩ := hh
  exact h Q a w (hQ E w a hS (Env.Le.refl _ _) hT rfl)

theorem codeA_wp {R : Callee} {C : ICallee} (hm : P.follows .mixedOrders = true) (hR : CalleeOk P G R) (hC : ICalleeOk P G C) (n : Nat) (m : List Bool) : ∀ (c : Code), StepOk P G N0 w0 I0 (codeA P G R C (fuelL n) m c) c ∧
    ∀ l, (∀ g, fromA P G R C (fuelL n) m c l = some g → ∃ rest, findLabel c l = some rest ∧ StepOk P G N0 w0 I0 g rest) ∧ (fromA P G R C (fuelL n) m c l = none → findLabel c l = none) := by
  intro c
  induction c with
  | skip => exact ⟨by rw [codeA]; exact skip_ok .normal _ fun Q a w h => wp_skip h, fun l => ⟨fun g h => by simp [fromA] at h, fun _ => rfl⟩⟩
  | region id ops draw => exact ⟨by rw [codeA]; exact regionA_wp hm hR hC, fun l => ⟨fun g h => by simp [fromA] at h, fun _ => rfl⟩⟩
  | seq a b iha ihb =>
    refine ⟨by rw [codeA]; exact seqA_wp iha.1 ihb.1, fun l => ⟨fun g h => ?_, fun h => ?_⟩⟩
    · simp only [fromA] at h
      split at h
      · rename_i f hf
        simp only [Option.some.injEq] at h
        subst h
        obtain ⟨rest, hr, hok⟩ := (iha.2 l).1 f hf
        exact ⟨.seq rest b, by simp [findLabel, hr], seqA_wp hok ihb.1⟩
      · rename_i hf
        obtain ⟨rest, hr, hok⟩ := (ihb.2 l).1 g h
        exact ⟨rest, by simp [findLabel, (iha.2 l).2 hf, hr], hok⟩
    · simp only [fromA] at h
      split at h
      · cases h
      · rename_i hf
        simp [findLabel, (iha.2 l).2 hf, (ihb.2 l).2 h]
  | cond c x y ihx ihy =>
    refine ⟨?_, fun l => ⟨fun g h => by simp [fromA] at h, fun _ => rfl⟩⟩
    rw [codeA]
    intro T S e T' S' E a w Q h hS hT hQ
    have hc := evA_rep hS.glob hT c
    simp only at h
    split at h
    · rename_i he
      rw [he] at hc
      exact wp_cond (rep_bool hc) (by simpa using ihx.1 _ _ _ _ _ E a w Q h hS hT hQ)
    · rename_i he
      rw [he] at hc
      exact wp_cond (rep_bool hc) (by simpa using ihy.1 _ _ _ _ _ E a w Q h hS hT hQ)
    · cases h
  | block id b ih => exact ⟨by rw [codeA]; exact blockA_wp ih.1, fun l => ⟨fun g h => by simp [fromA] at h, fun _ => rfl⟩⟩
  | loop b ih => exact ⟨by rw [codeA]; exact iterA_wp ih.1 n, fun l => ⟨fun g h => by simp [fromA] at h, fun _ => rfl⟩⟩
  | rangeFunc f ps ar b _ _ => exact ⟨(by rw [codeA]; intro T S x T' S' E a w Q h; exact nomatch h), fun l => ⟨fun g h => by simp [fromA] at h, fun _ => rfl⟩⟩
  | exit id => exact ⟨by rw [codeA]; exact skip_ok (.exit id) _ fun Q a w h => wp_exit h, fun l => ⟨fun g h => by simp [fromA] at h, fun _ => rfl⟩⟩
  | scope b ih => exact ⟨by rw [codeA]; exact scopeA_wp ih.2 ih.1 n, fun l => ⟨fun g h => by simp [fromA] at h, fun _ => rfl⟩⟩
  | label l' =>
    refine ⟨by rw [codeA]; exact skip_ok .normal _ fun Q a w h => wp_label h, fun l => ⟨fun g h => ?_, fun h => ?_⟩⟩
    · simp only [fromA] at h
      split at h
      · rename_i he
        simp only [Option.some.injEq] at h
        subst h
        exact ⟨.skip, by simp [findLabel, he], skip_ok .normal _ fun Q a w h => wp_skip h⟩
      · cases h
    · simp only [fromA] at h
      split at h
      · cases h
      · rename_i he
        simp [findLabel, he]
  | goto l' => exact ⟨by rw [codeA]; exact skip_ok (.goto l') _ fun Q a w h => wp_goto h, fun l => ⟨fun g h => by simp [fromA] at h, fun _ => rfl⟩⟩
  | ret => exact ⟨by rw [codeA]; exact skip_ok .ret _ fun Q a w h => wp_ret h, fun l => ⟨fun g h => by simp [fromA] at h, fun _ => rfl⟩⟩
  | refuse s => exact ⟨(by rw [codeA]; intro T S x T' S' E a w Q h; exact nomatch h), fun l => ⟨fun g h => by simp [fromA] at h, fun _ => rfl⟩⟩
end
end Go.Abs

namespace Go.Abs
open Go.RowKit

section
variable {P : Program} {E : Env} {w : World} {G : Glob} {N0 : Nat} {w0 : World} {I0 : Nat → Nat → Prop} {S : St}

def resSem (tm : Array Value) : ResultVar → Sem Value
  | .tmp t => pure (tm.getD t undef)
  | .cell a t => do loadVar t (← asAddr (tm.getD a undef))

theorem resultA_run (hS : SR P G N0 w0 I0 S E w) {T : List AV} {tm : Array Value} (hT : TR E w T tm) {r : ResultVar} {v : AV} (h : resultA P T S r = some v) :
    ∃ u, (resSem tm r).run P w = .ok u w ∧ Rep E w v u := by
  unfold resultA at h
  cases r with
  | tmp t =>
    simp only [Option.some.injEq] at h
    subst h
    exact ⟨_, rfl, hT.get t⟩
  | cell a t =>
    simp only at h
    split at h
    · rename_i b o hb
      have hr := hT.get a
      rw [hb] at hr
      obtain ⟨blk, he, _⟩ := rep_ptr hr
      obtain ⟨u, hu, hv⟩ := loadA_run hS h hr
      refine ⟨u, ?_, hv⟩
      rw [he] at hu
      simp only [resSem, he]
      simpa [Instr.loadAt, Instr.sureAddr, asAddr] using hu
    · cases h

theorem resultsA_run (hS : SR P G N0 w0 I0 S E w) {T : List AV} {tm : Array Value} (hT : TR E w T tm) : ∀ (rs : List ResultVar) (vs : List AV), resultsA P T S rs = some vs →
    ∃ us : List Value, (rs.mapM fun r => resSem tm r).run P w = .ok us w ∧ us.length = vs.length ∧ ∀ (i : Nat) (c : AV) (u : Value), vs[i]? = some c → us[i]? = some u → Rep E w c u
  | [], vs, h => by
    simp only [resultsA, Option.some.injEq] at h
    subst h
    exact ⟨[], rfl, rfl, fun i c u h => by simp at h⟩
  | r :: rs, vs, h => by
    simp only [resultsA] at h
    split at h
    · rename_i v hv
      split at h
      · rename_i vs' hvs
        simp only [Option.some.injEq] at h
        subst h
        obtain ⟨u, hu, hr⟩ := resultA_run hS hT hv
        obtain ⟨us, hus, hl, hrs⟩ := resultsA_run hS hT rs vs' hvs
        refine ⟨u :: us, ?_, by simp [hl], fun i c x hc hx => ?_⟩
        · rw [List.mapM_cons]
          simp only [Sem.run_bind]
          rw [hu]
          simp only [Result.andThen_ok, hus, Sem.run_pure]
        · match i, hc, hx with
          | 0, hc, hx => simp at hc hx; subst hc; subst hx; exact hr
          | i + 1, hc, hx => exact hrs i c x (by simpa using hc) (by simpa using hx)
      · cases h
    · cases h

theorem results_run (hS : SR P G N0 w0 I0 S E w) {T : List AV} {tm : Array Value} (hT : TR E w T tm) {fn : Func} {vs : List AV} (h : resultsA P T S fn.results.toList = some vs) :
    ∃ v, (results fn tm).run P w = .ok v w ∧ Rep E w (packA vs) v := by
  obtain ⟨us, hu, hl, hr⟩ := resultsA_run hS hT _ _ h
  have hm : (fn.results.mapM fun r => resSem tm r).run P w = .ok us.toArray w := by
    rw [Array.mapM_eq_mapM_toList, Sem.run_map]
    rw [hu]
    rfl
  refine ⟨if h : us.toArray.size = 1 then us.toArray[0] else .tuple us.toArray, ?_, ?_⟩
  · have e : results fn tm = (do
        let vs ← fn.results.mapM fun r => resSem tm r
        pure (if h : vs.size = 1 then vs[0] else .tuple vs)) := by
      unfold results
      congr 1
    rw [e]
    simp only [Sem.run_bind]
    rw [hm]
    rfl
  · match vs, us, hl, hr with
    | [c], [u], _, hr => exact hr 0 c u rfl rfl
    | [], [], _, hr => exact .tup _ _ rfl fun i c v h => by simp at h
    | c1 :: c2 :: cs, u1 :: u2 :: us, hl, hr =>
      have : ¬ (u1 :: u2 :: us).toArray.size = 1 := by simp
      rw [dif_neg this]
      exact .tup _ _ (by simpa using hl) fun i c v hc hv => hr i c v hc (by simpa using hv)

theorem rep_tok {sz t : Nat} {es : List AV} {v : Value} (h : Rep E w (.sl sz es (.tok t)) v) : E.K t es.length v := by
  cases h with | sl _ _ _ A cap u hcap hmax hA hsz hcl ho hr h1 => exact ho

theorem rep_retok {sz t : Nat} {es : List AV} {v : Value} (h : Rep E w (.sl sz es (.tok t)) v) (B : Nat → Option Nat) (K : Nat → Nat → Value → Prop) (o : Own) (ho : ∀ A cap, v = .slice A es.length cap → OwnOk K o es.length cap v) :
    Rep ⟨E.I, B, K⟩ w (.sl sz es o) v := by
  cases h with | sl _ _ _ A cap u hcap hmax hA hsz hcl _ hr h1 =>
  exact .sl sz es o A cap u hcap hmax hA hsz hcl (ho A cap rfl) (fun i e j c hi hj => (hr i e j c hi hj).rebase (closed_closed1 (closed1_cells (hcl e (List.mem_of_getElem? hi)) hj)) B K) h1

theorem tail_rep {vs : List AV} {us : Array Value} {c : AV} {B : Nat → Option Nat} {K : Nat → Nat → Value → Prop} (hn : us.size = vs.length + 1) (hc : ∀ (i : Nat) (x : AV) (v : Value), (c :: vs)[i]? = some x → us[i]? = some v → Rep E w x v)
    (hall : (vs.map AV.strip1).all AV.closed1 = true) {c' : AV} (h0 : ∀ v, us[0]? = some v → Rep ⟨E.I, B, K⟩ w c' v) : Rep ⟨E.I, B, K⟩ w (.tup (c' :: vs.map AV.strip1)) (.tuple us) := by
  rw [List.all_eq_true] at hall
  refine .tup _ _ (by simpa using hn) fun i x v hi hv => ?_
  match i, hi with
  | 0, hi =>
    simp at hi; subst hi
    exact h0 v hv
  | i + 1, hi =>
    simp only [List.getElem?_cons_succ, List.getElem?_map] at hi
    cases hx : vs[i]? with
    | none => simp [hx] at hi
    | some y =>
      simp [hx] at hi; subst hi
      exact (hc (i + 1) y v (by simpa using hx) hv).strip1.rebase (hall _ (List.mem_map.2 ⟨y, List.mem_of_getElem? hx, rfl⟩)) B K

/-- a result, whoever asks for it -/
theorem normA_res {E0 : Env} {w1 : World} (hS : SR P G w1.heap.size w1 E0.I S E w) (hI : ∀ b o, E0.I b o → E.I b o) {r0 r : AV} {lv : List (Nat × TypeId)} {v : Value} (h : normA S.live r0 = some (r, lv))
    (hr : Rep E w r0 v) : Res P E0 w1 w r lv v := by
  have hI2 : ∀ b o, E.I b o → E0.I b o ∨ (w1.heap.size ≤ b ∧ b < w.heap.size) := fun b o hi => by
    rcases Nat.lt_or_ge b w1.heap.size with hlt | hge
    · exact .inl (hS.Iold b o hi hlt)
    · exact .inr ⟨hge, hS.Ilt b o hi⟩
  refine ⟨E.I, hI, hI2, hS.below, ?_⟩
  have owner : ∀ t n e es sz v, S.live[t]? = some (n, e) → n = es.length → Rep E w (.sl sz es (.tok t)) v → ∃ sz' xs, sizeA P e = some sz' ∧ w.ownsRow w1.heap.size e sz' v n xs ∧ ∀ g, v.ownBlock = some g → ∀ o, E.I g o → o < n * sz' := by
    intro t n e es sz v ht hn hr
    have hk := rep_tok hr
    obtain ⟨v', xs, sz', hsz, hown, hu, hK, hg⟩ := hS.live t n e ht
    subst hn
    obtain rfl := hu v hk
    exact ⟨sz', xs, hsz, hown, fun g hg1 => (hg g hg1).1⟩
  unfold normA at h
  split at h
  · rename_i sz es t
    split at h
    · rename_i n e ht
      split at h
      · rename_i hn
        simp only [Option.some.injEq, Prod.mk.injEq] at h
        obtain ⟨rfl, rfl⟩ := h
        obtain ⟨sz', xs, h1, h2, h3⟩ := owner t n e es sz v ht hn hr
        refine .inr ⟨n, e, v, sz', xs, rfl, h1, h2, h3, fun B K L hk => ?_⟩
        exact rep_retok hr B K (.tok L) fun A cap _ => by subst hn; exact hk
      · simp only [Option.some.injEq, Prod.mk.injEq] at h
        obtain ⟨rfl, rfl⟩ := h
        exact .inl ⟨rfl, fun B K => rep_retok hr B K .no fun _ _ _ => trivial⟩
    · cases h
  · rename_i sz es t vs
    obtain ⟨us, rfl, hn, hc⟩ := rep_tup hr
    have hu0 : 0 < us.size := by rw [hn]; simp
    have h0 := hc 0 _ _ rfl (Array.getElem?_eq_getElem hu0)
    split at h
    · rename_i hall
      split at h
      · rename_i n e ht
        split at h
        · rename_i hne
          simp only [Option.some.injEq, Prod.mk.injEq] at h
          obtain ⟨rfl, rfl⟩ := h
          obtain ⟨sz', xs, h1, h2, h3⟩ := owner t n e es sz _ ht hne h0
          refine .inr ⟨n, e, us[0], sz', xs, rfl, h1, h2, h3, fun B K L hk => ?_⟩
          refine tail_rep (by simpa using hn) hc hall fun v hv => ?_
          rw [Array.getElem?_eq_getElem hu0] at hv
          injection hv with hv; subst hv
          exact rep_retok h0 B K (.tok L) fun A cap _ => by subst hne; exact hk
        · simp only [Option.some.injEq, Prod.mk.injEq] at h
          obtain ⟨rfl, rfl⟩ := h
          refine .inl ⟨rfl, fun B K => tail_rep (by simpa using hn) hc hall fun v hv => ?_⟩
          rw [Array.getElem?_eq_getElem hu0] at hv
          injection hv with hv; subst hv
          exact rep_retok h0 B K .no fun _ _ _ => trivial
      · cases h
    · cases h
  · rename_i vs _
    split at h
    · rename_i hall
      simp only [Option.some.injEq, Prod.mk.injEq] at h
      obtain ⟨rfl, rfl⟩ := h
      rw [List.all_eq_true] at hall
      obtain ⟨us, rfl, hn, hc⟩ := rep_tup hr
      refine .inl ⟨rfl, fun B K => .tup _ _ (by simpa using hn) fun i x v hi hv => ?_⟩
      rw [List.getElem?_map] at hi
      cases hx : vs[i]? with
      | none => simp [hx] at hi
      | some y =>
        simp [hx] at hi; subst hi
        exact (hc i y v hx hv).strip1.rebase (hall _ (List.mem_map.2 ⟨y, List.mem_of_getElem? hx, rfl⟩)) B K
    · cases h
  · split at h
    · rename_i hcl
      simp only [Option.some.injEq, Prod.mk.injEq] at h
      obtain ⟨rfl, rfl⟩ := h
      exact .inl ⟨rfl, fun B K => hr.strip1.rebase hcl B K⟩
    · cases h

/-- what leans on variables below n alone -/
inductive PB (n : Nat) : AV → Prop
  | lit (v : Value) : PB n (.lit v)
  | bool (b : Bool) : PB n (.bool b)
  | int (k : IntKind) (m : Int) : PB n (.int k m)
  | str (l : List UInt8) : PB n (.str l)
  | sl (sz : Nat) (es : List AV) (o : Own) : PB n (.sl sz es o)
  | elt (sz : Nat) (es : List AV) (i j : Nat) : PB n (.elt sz es i j)
  | ptr (b o : Nat) (h : b < n) : PB n (.ptr b o)
  | mp (b : Nat) (h : b < n) : PB n (.mp b)
  | ifc : PB n .ifc
  | junk : PB n .junk
  | agg (cs : List AV) (h : ∀ c ∈ cs, PB n c) : PB n (.agg cs)
  | tup (cs : List AV) (h : ∀ c ∈ cs, PB n c) : PB n (.tup cs)
  | fn (f : FuncId) (cs : List AV) (h : ∀ c ∈ cs, PB n c) : PB n (.fn f cs)

theorem pb0 {n : Nat} {a : AV} (h : a.p0 n = true) : PB n a := by
  cases a with
  | ptr b o => exact .ptr b o (by simpa [AV.p0] using h)
  | mp b => exact .mp b (by simpa [AV.p0] using h)
  | fn f cap =>
    have : cap = [] := by simpa [AV.p0] using h
    subst this
    exact .fn f [] fun c hc => by cases hc
  | agg cs => simp [AV.p0] at h
  | tup cs => simp [AV.p0] at h
  | _ => constructor
theorem pb1 {n : Nat} {a : AV} (h : a.p1 n = true) : PB n a := by
  cases a with
  | fn f cap =>
    simp only [AV.p1, List.all_eq_true] at h
    exact .fn f cap fun c hc => pb0 (h c hc)
  | agg cs =>
    simp only [AV.p1, List.all_eq_true] at h
    exact .agg cs fun c hc => pb0 (h c hc)
  | _ => exact pb0 h
theorem pb2 {n : Nat} {a : AV} (h : a.p2 n = true) : PB n a := by
  cases a with
  | tup vs =>
    simp only [AV.p2, List.all_eq_true] at h
    exact .tup vs fun c hc => pb1 (h c hc)
  | agg cs =>
    simp only [AV.p2, List.all_eq_true] at h
    exact .agg cs fun c hc => pb1 (h c hc)
  | _ => exact pb1 h
theorem pb_closed {n : Nat} {a : AV} (h : a.closed1 = true) : PB n a := by
  cases a with
  | agg cs =>
    simp only [AV.closed1, List.all_eq_true] at h
    refine .agg cs fun c hc => ?_
    have := h c hc
    cases c <;> first | (simp [AV.closed] at this; done) | constructor
  | _ => first | (simp [AV.closed1, AV.closed] at h; done) | constructor

def cutB (n : Nat) (B : Nat → Option Nat) : Nat → Option Nat := fun id => if id < n then B id else none

theorem Rep.cut {n : Nat} {a : AV} {v : Value} (h : Rep E w a v) (hp : PB n a) : Rep ⟨E.I, cutB n E.B, E.K⟩ w a v := by
  induction h with
  | lit v h => exact .lit v h
  | bool b => exact .bool b
  | int k n => exact .int k n
  | str l s h => exact .str l s h
  | agg cs vs hn h1 _ ih => cases hp with | agg _ hp => exact .agg cs vs hn h1 fun i c v hi hv => ih i c v hi hv (hp c (List.mem_of_getElem? hi))
  | tup cs vs hn _ ih => cases hp with | tup _ hp => exact .tup cs vs hn fun i c v hi hv => ih i c v hi hv (hp c (List.mem_of_getElem? hi))
  | sl sz es o A cap u hcap hmax hA hsz hcl ho _ h1 ih =>
    exact .sl sz es o A cap u hcap hmax hA hsz hcl ho (fun i e j c hi hj => ih i e j c hi hj (pb_closed (closed_closed1 (closed1_cells (hcl e (List.mem_of_getElem? hi)) hj)))) h1
  | elt sz es i0 j0 b off u hcl hA _ h1 ih =>
    exact .elt sz es i0 j0 b off u hcl hA (fun i e j c hi hj => ih i e j c hi hj (pb_closed (closed_closed1 (closed1_cells (hcl e (List.mem_of_getElem? hi)) hj)))) h1
  | ptr b off blk h => cases hp with | ptr _ _ hb => exact .ptr b off blk (by simp [cutB, hb, h])
  | mp b blk h => cases hp with | mp _ hb => exact .mp b blk (by simp [cutB, hb, h])
  | fn f cs vs hn _ ih => cases hp with | fn _ _ hp => exact .fn f cs vs hn fun i c v hi hv => ih i c v hi hv (hp c (List.mem_of_getElem? hi))
  | ifc t v => exact .ifc t v
  | junk v => exact .junk v

theorem boxesOk_at {n : Nat} : ∀ (l : List (Option (List AV))), boxesOk n l = true → ∀ (i : Nat) (cs : List AV), l[i]? = some (some cs) → isRow cs = true → ∀ c ∈ cs, PB n c
  | [], _, i, cs, h => by simp at h
  | some ds :: l, hb, i, cs, h => by
    simp only [boxesOk, Bool.and_eq_true, Bool.or_eq_true, Bool.not_eq_true', List.all_eq_true] at hb
    match i, h with
    | 0, h => simp at h; subst h; exact fun hr c hc => pb1 (hb.1.elim (fun e => by rw [hr] at e; cases e) (fun k => k c hc))
    | i + 1, h => exact boxesOk_at l hb.2 i cs (by simpa using h)
  | none :: l, hb, i, cs, h => by
    simp only [boxesOk] at hb
    match i, h with
    | 0, h => simp at h
    | i + 1, h => exact boxesOk_at l hb i cs (by simpa using h)

/-- mentions no owner from a number on -/
inductive TB (n : Nat) : AV → Prop
  | lit (v : Value) : TB n (.lit v)
  | bool (b : Bool) : TB n (.bool b)
  | int (k : IntKind) (m : Int) : TB n (.int k m)
  | str (l : List UInt8) : TB n (.str l)
  | sl (sz : Nat) (es : List AV) (o : Own) (h : ∀ k, o = .tok k → k < n) : TB n (.sl sz es o)
  | elt (sz : Nat) (es : List AV) (i j : Nat) : TB n (.elt sz es i j)
  | ptr (b o : Nat) : TB n (.ptr b o)
  | mp (b : Nat) : TB n (.mp b)
  | ifc : TB n .ifc
  | junk : TB n .junk
  | agg (cs : List AV) (h : ∀ c ∈ cs, TB n c) : TB n (.agg cs)
  | tup (cs : List AV) (h : ∀ c ∈ cs, TB n c) : TB n (.tup cs)
  | fn (f : FuncId) (cs : List AV) (h : ∀ c ∈ cs, TB n c) : TB n (.fn f cs)
def AV.t0 (n : Nat) : AV → Bool
  | .sl _ _ (.tok k) => decide (k < n)
  | .agg _ | .tup _ | .fn _ _ => false
  | _ => true
def AV.t1 (n : Nat) : AV → Bool
  | .agg cs | .tup cs | .fn _ cs => cs.all (AV.t0 n)
  | a => a.t0 n
def AV.t2 (n : Nat) : AV → Bool
  | .agg cs | .tup cs | .fn _ cs => cs.all (AV.t1 n)
  | a => a.t1 n
theorem tb0 {n : Nat} {a : AV} (h : a.t0 n = true) : TB n a := by
  cases a with
  | sl sz es o =>
    refine .sl sz es o fun k hk => ?_
    subst hk
    simpa [AV.t0] using h
  | agg cs => simp [AV.t0] at h
  | tup cs => simp [AV.t0] at h
  | fn f cs => simp [AV.t0] at h
  | _ => constructor
theorem tb1 {n : Nat} {a : AV} (h : a.t1 n = true) : TB n a := by
  cases a with
  | agg cs =>
    simp only [AV.t1, List.all_eq_true] at h
    exact .agg cs fun c hc => tb0 (h c hc)
  | tup cs =>
    simp only [AV.t1, List.all_eq_true] at h
    exact .tup cs fun c hc => tb0 (h c hc)
  | fn f cs =>
    simp only [AV.t1, List.all_eq_true] at h
    exact .fn f cs fun c hc => tb0 (h c hc)
  | _ => exact tb0 h
theorem tb2 {n : Nat} {a : AV} (h : a.t2 n = true) : TB n a := by
  cases a with
  | agg cs =>
    simp only [AV.t2, List.all_eq_true] at h
    exact .agg cs fun c hc => tb1 (h c hc)
  | tup cs =>
    simp only [AV.t2, List.all_eq_true] at h
    exact .tup cs fun c hc => tb1 (h c hc)
  | fn f cs =>
    simp only [AV.t2, List.all_eq_true] at h
    exact .fn f cs fun c hc => tb1 (h c hc)
  | _ => exact tb1 h
theorem tb_closed0 {n : Nat} {a : AV} (h : a.closed = true) : TB n a := by
  cases a with
  | sl sz es o =>
    refine .sl sz es o fun k hk => ?_
    subst hk
    simp [AV.closed] at h
  | _ => first | (simp [AV.closed] at h; done) | constructor
def cutK (n : Nat) (K : Nat → Nat → Value → Prop) : Nat → Nat → Value → Prop := fun t m v => K t m v ∧ t < n
theorem Rep.cutK {n : Nat} {a : AV} {v : Value} (h : Rep E w a v) (hp : TB n a) : Rep ⟨E.I, E.B, Abs.cutK n E.K⟩ w a v := by
  induction h with
  | lit v h => exact .lit v h
  | bool b => exact .bool b
  | int k n => exact .int k n
  | str l s h => exact .str l s h
  | agg cs vs hn h1 _ ih => cases hp with | agg _ hp => exact .agg cs vs hn h1 fun i c v hi hv => ih i c v hi hv (hp c (List.mem_of_getElem? hi))
  | tup cs vs hn _ ih => cases hp with | tup _ hp => exact .tup cs vs hn fun i c v hi hv => ih i c v hi hv (hp c (List.mem_of_getElem? hi))
  | sl sz es o A cap u hcap hmax hA hsz hcl ho _ h1 ih =>
    cases hp with | sl _ _ _ hp =>
    refine .sl sz es o A cap u hcap hmax hA hsz hcl ?_ (fun i e j c hi hj => ih i e j c hi hj (tb_closed0 (closed1_cells (hcl e (List.mem_of_getElem? hi)) hj))) h1
    cases o with
    | full => exact ho
    | no => trivial
    | nil => exact ho
    | tok t => exact ⟨ho, hp t rfl⟩
  | elt sz es i0 j0 b off u hcl hA _ h1 ih =>
    exact .elt sz es i0 j0 b off u hcl hA (fun i e j c hi hj => ih i e j c hi hj (tb_closed0 (closed1_cells (hcl e (List.mem_of_getElem? hi)) hj))) h1
  | ptr b off blk h => exact .ptr b off blk h
  | mp b blk h => exact .mp b blk h
  | fn f cs vs hn _ ih => cases hp with | fn _ _ hp => exact .fn f cs vs hn fun i c v hi hv => ih i c v hi hv (hp c (List.mem_of_getElem? hi))
  | ifc t v => exact .ifc t v
  | junk v => exact .junk v
def stripT (n : Nat) (a : AV) : AV :=
  match a with
  | .sl sz es (.tok k) => if k < n then .sl sz es (.tok k) else .sl sz es .no
  | a => if a.t2 n then a else .junk
theorem Rep.stripT {n : Nat} {a : AV} {v : Value} (h : Rep E w a v) : Rep ⟨E.I, E.B, Abs.cutK n E.K⟩ w (Abs.stripT n a) v := by
  unfold Abs.stripT
  split
  · rename_i sz es k
    split
    · rename_i hk
      exact h.cutK (.sl _ _ _ fun k' e => by injection e with e; omega)
    · have h2 : Rep E w (.sl sz es .no) v := by
        cases h with | sl _ _ _ A cap u hcap hmax hA hsz hcl ho hr h1 => exact .sl sz es .no A cap u hcap hmax hA hsz hcl trivial hr h1
      exact h2.cutK (.sl _ _ _ fun k' e => by cases e)
  · split
    · rename_i hk
      exact h.cutK (tb2 hk)
    · exact .junk v
def boxesT (n : Nat) : List (Option (List AV)) → Bool
  | [] => true
  | some cs :: l => (!isRow cs || cs.all (AV.t1 n)) && boxesT n l
  | none :: l => boxesT n l
theorem boxesT_at {n : Nat} : ∀ (l : List (Option (List AV))), boxesT n l = true → ∀ (i : Nat) (cs : List AV), l[i]? = some (some cs) → isRow cs = true → ∀ c ∈ cs, TB n c
  | [], _, i, cs, h => by simp at h
  | some ds :: l, hb, i, cs, h => by
    simp only [boxesT, Bool.and_eq_true, Bool.or_eq_true, Bool.not_eq_true', List.all_eq_true] at hb
    match i, h with
    | 0, h => simp at h; subst h; exact fun hr c hc => tb1 (hb.1.elim (fun e => by rw [hr] at e; cases e) (fun k => k c hc))
    | i + 1, h => exact boxesT_at l hb.2 i cs (by simpa using h)
  | none :: l, hb, i, cs, h => by
    simp only [boxesT] at hb
    match i, h with
    | 0, h => simp at h
    | i + 1, h => exact boxesT_at l hb i cs (by simpa using h)
/-- owners are forgotten -/
theorem SR.cutK (h : SR P G N0 w0 I0 S E w) {n : Nat} (hb : boxesT n S.boxes = true) : SR P G N0 w0 I0 { S with live := S.live.take n } ⟨E.I, E.B, Abs.cutK n E.K⟩ w := by
  refine ⟨h.below, h.n0, h.Ilt, h.Iold, h.Blt, h.Binj, fun id cs hi => ?_, fun g e hg => ⟨(h.glob g e hg).1, (h.glob g e hg).2.1.cutK (.elt _ _ _ _), (h.glob g e hg).2.2⟩, h.hole, fun t m v hk => ?_, fun t m v hk => h.Kblk t m v hk.1, fun t m e ht => ?_⟩
  · obtain ⟨blk, hB, hx⟩ := h.box id cs hi
    have hpb := boxesT_at _ hb id cs hi
    refine ⟨blk, hB, ?_⟩
    cases hx with
    | row arr ty hr hh hn hc => exact .row arr ty hr hh hn fun i c v hi hv => ⟨(hc i c v hi hv).1.cutK (hpb hr c (List.mem_of_getElem? hi)), (hc i c v hi hv).2⟩
    | iter s pos hcs hh => exact .iter s pos hcs hh
    | map t n es k e D hcs hk hg hD ho => exact .map t n es k e D hcs hk hg hD ho
  · obtain ⟨m', e, hm, hle⟩ := h.Klt t m v hk.1
    exact ⟨m', e, by rw [List.getElem?_take_of_lt hk.2]; exact hm, hle⟩
  · have htn : t < n := by
      have := (List.getElem?_eq_some_iff.1 ht).1
      simp at this; omega
    have ht' : S.live[t]? = some (m, e) := by
      have := ht
      simp only [List.getElem?_take_of_lt htn] at this
      exact this
    obtain ⟨v, xs, sz, hsz, hown, hu, hK, hg⟩ := h.live t m e ht'
    exact ⟨v, xs, sz, hsz, hown, fun v' hk => hu v' hk.1, ⟨hK, htn⟩, fun g hg' => ⟨(hg g hg').1, (hg g hg').2.1, fun t' n' v' hk => (hg g hg').2.2 t' n' v' hk.1⟩⟩

/-- the callee's own variables are forgotten -/
theorem SR.cut (h : SR P G N0 w0 I0 S E w) {n : Nat} (hb : boxesOk n (S.boxes.take n) = true) : SR P G N0 w0 I0 { S with boxes := S.boxes.take n } ⟨E.I, cutB n E.B, E.K⟩ w := by
  have hB : ∀ id b, cutB n E.B id = some b → id < n ∧ E.B id = some b := fun id b hi => by
    unfold cutB at hi
    split at hi
    · exact ⟨‹_›, hi⟩
    · cases hi
  refine ⟨h.below, h.n0, h.Ilt, h.Iold, fun id b hi => ?_, fun id id' b h1 h2 => h.Binj id id' b (hB id b h1).2 (hB id' b h2).2, fun id cs hi => ?_, fun g e hg => ⟨(h.glob g e hg).1, ?_⟩, fun id hi => ?_, h.Klt, h.Kblk, fun t m e ht => ?_⟩
  · obtain ⟨h1, h2⟩ := hB id b hi
    obtain ⟨a1, a2⟩ := h.Blt id b h2
    exact ⟨by simp; omega, a2⟩
  · have hlt : id < n := by
      have := (List.getElem?_eq_some_iff.1 hi).1
      simp at this; omega
    have hi' : S.boxes[id]? = some (some cs) := by
      have := hi
      simp only [List.getElem?_take_of_lt hlt] at this
      exact this
    obtain ⟨blk, hB', hx⟩ := h.box id cs hi'
    have hpb := boxesOk_at _ hb id cs hi
    refine ⟨blk, by simp [cutB, hlt, hB'], ?_⟩
    cases hx with
    | row arr ty hr hh hn hc => exact .row arr ty hr hh hn fun i c v hi hv => ⟨(hc i c v hi hv).1.cut (hpb hr c (List.mem_of_getElem? hi)), (hc i c v hi hv).2⟩
    | iter s pos hcs hh => exact .iter s pos hcs hh
    | map t n es k e D hcs hk hg hD ho => exact .map t n es k e D hcs hk hg hD ho
  · exact ⟨(h.glob g e hg).2.1.cut (.elt _ _ _ _), (h.glob g e hg).2.2⟩
  · have hlt : id < n := by
      have := (List.getElem?_eq_some_iff.1 hi).1
      simp at this; omega
    have hi' : S.boxes[id]? = some none := by
      have := hi
      simp only [List.getElem?_take_of_lt hlt] at this
      exact this
    simp [cutB, hlt, h.hole id hi']
  · obtain ⟨v, xs, sz, hsz, hown, hu, hK, hg⟩ := h.live t m e ht
    refine ⟨v, xs, sz, hsz, hown, hu, hK, fun g hg' => ?_⟩
    obtain ⟨a1, a2, a3⟩ := hg g hg'
    exact ⟨a1, fun id hid => a2 id (hB id g hid).2, a3⟩

theorem runA_ok {R : Callee} {C : ICallee} (hm : P.follows .mixedOrders = true) (hR : CalleeOk P G R) (hC : ICalleeOk P G C) (n : Nat) (hint : FuncId → List Bool) {f : FuncId} {args : List AV} {S S' : St} {r : AV} (h : runA P G R C (fuelL n) hint f args S = some (r, S')) :
    goodFn P f ∧ ∀ (N0 : Nat) (w0 : World) (I0 : Nat → Nat → Prop) (E : Env) (w : World) (vs : Array Value), SR P G N0 w0 I0 S E w → vs.size = args.length → (∀ (i : Nat) (c : AV) (v : Value), args[i]? = some c → vs[i]? = some v → Rep E w c v) →
      Calls P f vs w fun e w' => ∃ v E', e = .returned v ∧ SR P G N0 w0 I0 S' E' w' ∧ Env.Le E E' w w' ∧ Rep E' w' r v := by
  unfold runA at h
  split at h
  · cases h
  · rename_i fn hf
    split at h
    · cases h
    · rename_i c hb
      split at h
      · cases h
      · rename_i hname
        refine ⟨⟨fn, hf, by rw [hb]; rfl, by simpa using hname⟩, fun N0 w0 I0 E w vs hS hn hv => ?_⟩
        have hT0 : TR E w (args ++ List.replicate (fn.ntmps - args.length) (.tup [])) (vs ++ Array.replicate (fn.ntmps - vs.size) undef) := by
          refine ⟨by simp [hn], fun i c v hi hv' => ?_⟩
          by_cases hlt : i < args.length
          · rw [List.getElem?_append_left hlt] at hi
            rw [Array.getElem?_append_left (by omega)] at hv'
            exact hv i c v hi hv'
          · rw [List.getElem?_append_right (by omega), List.getElem?_replicate] at hi
            rw [Array.getElem?_append_right (by omega), Array.getElem?_replicate] at hv'
            split at hi
            · split at hv'
              · simp at hi hv'; subst hi; subst hv'
                exact rep_undef
              · cases hv'
            · cases hi
        have hcode := (codeA_wp (N0 := N0) (w0 := w0) (I0 := I0) hm hR hC n (hint f) c).1
        have fin : ∀ (x : AExit) (T : List AV) (S1 : St), codeA P G R C (fuelL n) (hint f) c (args ++ List.replicate (fn.ntmps - args.length) (.tup [])) S = some (x, T, S1) → (x = .normal ∨ x = .ret) →
            (∃ us, resultsA P T S1 fn.results.toList = some us ∧ packA us = r ∧ S1 = S') → Calls P f vs w fun e w' => ∃ v E', e = .returned v ∧ SR P G N0 w0 I0 S' E' w' ∧ Env.Le E E' w w' ∧ Rep E' w' r v := by
          intro x T S1 hcd hx ⟨us, hus, hp, hs⟩
          subst hp; subst hs
          refine calls_of_wp hf hb (hcode _ _ x T S1 E _ w _ hcd hS hT0 fun E' w' a' h1 h2 h3 h4 => ?_)
          obtain ⟨v, hv, hrep⟩ := results_run h1 h3 hus
          rcases hx with rfl | rfl
          · exact ⟨h4, v, hv, v, E', rfl, h1, h2, hrep⟩
          · exact ⟨h4, v, hv, v, E', rfl, h1, h2, hrep⟩
        split at h
        · rename_i T S1 hcd
          split at h
          · rename_i us hus
            simp only [Option.some.injEq, Prod.mk.injEq] at h
            exact fin .normal T S1 hcd (.inl rfl) ⟨us, hus, h.1, h.2⟩
          · cases h
        · rename_i T S1 hcd
          split at h
          · rename_i us hus
            simp only [Option.some.injEq, Prod.mk.injEq] at h
            exact fin .ret T S1 hcd (.inr rfl) ⟨us, hus, h.1, h.2⟩
          · cases h
        · cases h

theorem rep_elt_rebase {sz i j : Nat} {es : List AV} {v : Value} (h : Rep E w (.elt sz es i j) v) (B : Nat → Option Nat) (K : Nat → Nat → Value → Prop) : Rep ⟨E.I, B, K⟩ w (.elt sz es i j) v := by
  cases h with | elt _ _ _ _ b off u hcl hA hr h1 =>
  exact .elt sz es i j b off u hcl hA (fun i e j c hi hj => (hr i e j c hi hj).rebase (closed_closed1 (closed1_cells (hcl e (List.mem_of_getElem? hi)) hj)) _ _) h1

theorem funcA_ok {R : Callee} {C : ICallee} (hm : P.follows .mixedOrders = true) (hR : CalleeOk P G R) (hC : ICalleeOk P G C) (n : Nat) (hint : FuncId → List Bool) : CalleeOk P G (funcA P G R C (fuelL n) hint) := by
  intro f args r lv h
  unfold funcA at h
  split at h
  · rename_i r0 S hr
    obtain ⟨hg, hcall⟩ := runA_ok hm hR hC n hint hr
    refine fun E w vs hI hG hn hv hcl => .inl ⟨hg, ?_⟩
    have hS0 : SR P G w.heap.size w E.I ⟨[], []⟩ ⟨E.I, fun _ => none, fun _ _ _ => False⟩ w :=
      ⟨Below.refl _ _, Nat.le_refl _, hI, fun b o h _ => h, fun id b h => (nomatch h), fun id id' b h => (nomatch h), fun id cs h => (nomatch h), fun g e hg => ⟨(hG g e hg).1, rep_elt_rebase (hG g e hg).2.1 _ _, (hG g e hg).2.2⟩, fun id h => (nomatch h), fun t n v h => False.elim h, fun t n v h => False.elim h, fun t n e h => (nomatch h)⟩
    refine (hcall _ _ _ _ w vs hS0 hn fun i c v hi hv' => (hv i c v hi hv').rebase (hcl c (List.mem_of_getElem? hi)) _ _).mono fun e w' ⟨v, E', he, h1, h2, h3⟩ => ?_
    exact ⟨v, he, normA_res (E0 := E) h1 (fun b o hi => (h2.I b o hi).1) h h3⟩
  · cases h

theorem funcI_ok {R : Callee} {C : ICallee} (hm : P.follows .mixedOrders = true) (hR : CalleeOk P G R) (hC : ICalleeOk P G C) (n : Nat) (hint : FuncId → List Bool) : ICalleeOk P G (funcI P G R C (fuelL n) hint) := by
  intro f args S r S' h
  unfold funcI at h
  split at h
  · rename_i r0 S1 hr
    obtain ⟨hg, hcall⟩ := runA_ok hm hR hC n hint hr
    split at h
    · rename_i hok
      simp only [Bool.and_eq_true] at hok
      simp only [Option.some.injEq, Prod.mk.injEq] at h
      obtain ⟨rfl, rfl⟩ := h
      refine ⟨hg, fun N0 w0 I0 E w vs hS hn hv => (hcall N0 w0 I0 E w vs hS hn hv).mono fun e w' ⟨v, E', he, h1, h2, h3⟩ => ?_⟩
      refine ⟨v, ⟨E'.I, cutB S.boxes.length E'.B, E'.K⟩, he, h1.cut hok.2, ⟨h2.I, fun b x hb => ?_, h2.K⟩, h3.cut (pb2 hok.1)⟩
      have := (hS.Blt b x hb).1
      simp [cutB, this, h2.B b x hb]
    · cases h
  · cases h

theorem orA_ok {R0 R : Callee} (h0 : CalleeOk P G R0) (h : CalleeOk P G R) : CalleeOk P G (orA R0 R) := by
  intro f args r lv hr
  unfold orA at hr
  split at hr
  · rename_i x hx
    simp only [Option.some.injEq] at hr
    subst hr
    exact h0 f args r lv hx
  · exact h f args r lv hr

theorem evs_ok (hm : P.follows .mixedOrders = true) {R0 : Callee} (h0 : CalleeOk P G R0) (hint : FuncId → List Bool) : ∀ n, CalleeOk P G (evs P G R0 hint n).1 ∧ ICalleeOk P G (evs P G R0 hint n).2
  | 0 => ⟨h0, noC_ok⟩
  | n + 1 => ⟨orA_ok h0 (funcA_ok hm (evs_ok hm h0 hint n).1 (evs_ok hm h0 hint n).2 n hint), funcI_ok hm (evs_ok hm h0 hint n).1 (evs_ok hm h0 hint n).2 n hint⟩
end
end Go.Abs

namespace Go.Abs
open Go.RowKit

/-- forms of values -/
inductive Sh0 where
  | int (k : IntKind)
  | bool
  | str
  | sl (sz : Nat) (o : Own)
  | err
  | is (v : AV)
inductive Sh1 where
  | one (s : Sh0)
  | agg (l : List Sh0)
inductive Sh where
  | val (s : Sh1)
  | tup (l : List Sh1)

def ex0 : Sh0 → (AV → Prop) → Prop
  | .int k, K => ∃ n, K (.int k n)
  | .bool, K => ∃ b, K (.bool b)
  | .str, K => ∃ s, K (.str s)
  | .sl sz o, K => ∃ es, K (.sl sz es o)
  | .err, K => K .ifc ∨ K (.lit .nilIface)
  | .is v, K => K v
def exs0 : List Sh0 → (List AV → Prop) → Prop
  | [], K => K []
  | s :: l, K => ex0 s fun v => exs0 l fun vs => K (v :: vs)
def ex1 : Sh1 → (AV → Prop) → Prop
  | .one s, K => ex0 s K
  | .agg l, K => exs0 l fun cs => K (.agg cs)
def exs1 : List Sh1 → (List AV → Prop) → Prop
  | [], K => K []
  | s :: l, K => ex1 s fun v => exs1 l fun vs => K (v :: vs)
def exSh : Sh → (AV → Prop) → Prop
  | .val s, K => ex1 s K
  | .tup l, K => exs1 l fun vs => K (.tup vs)

theorem ex0_imp {s : Sh0} {K : AV → Prop} (h : ex0 s K) : ∃ v, K v := by
  cases s with
  | int k => obtain ⟨n, h⟩ := h; exact ⟨_, h⟩
  | bool => obtain ⟨n, h⟩ := h; exact ⟨_, h⟩
  | str => obtain ⟨n, h⟩ := h; exact ⟨_, h⟩
  | sl sz o => obtain ⟨n, h⟩ := h; exact ⟨_, h⟩
  | err => rcases h with h | h <;> exact ⟨_, h⟩
  | is v => exact ⟨_, h⟩
theorem exs0_imp : ∀ {l : List Sh0} {K : List AV → Prop}, exs0 l K → ∃ v, K v
  | [], _, h => ⟨_, h⟩
  | s :: l, K, h => by
    obtain ⟨v, h⟩ := ex0_imp h
    obtain ⟨vs, h⟩ := exs0_imp h
    exact ⟨_, h⟩
theorem ex1_imp {s : Sh1} {K : AV → Prop} (h : ex1 s K) : ∃ v, K v := by
  cases s with
  | one s => exact ex0_imp h
  | agg l => obtain ⟨vs, h⟩ := exs0_imp h; exact ⟨_, h⟩
theorem exs1_imp : ∀ {l : List Sh1} {K : List AV → Prop}, exs1 l K → ∃ v, K v
  | [], _, h => ⟨_, h⟩
  | s :: l, K, h => by
    obtain ⟨v, h⟩ := ex1_imp h
    obtain ⟨vs, h⟩ := exs1_imp h
    exact ⟨_, h⟩
theorem exSh_imp {s : Sh} {K : AV → Prop} (h : exSh s K) : ∃ v, K v := by
  cases s with
  | val s => exact ex1_imp h
  | tup l => obtain ⟨vs, h⟩ := exs1_imp h; exact ⟨_, h⟩

/-- both answers -/
def forkB (v : AV) (K : AV → Prop) : Prop :=
  match v with
  | .bool b => (b = true → K (.bool true)) ∧ (b = false → K (.bool false))
  | v => K v
theorem forkB_imp {v : AV} {K : AV → Prop} (h : forkB v K) : K v := by
  cases v with
  | bool b => cases b with
    | true => exact h.1 rfl
    | false => exact h.2 rfl
  | _ => exact h

/-- the form of what lies in memory at a type -/
def leaf (P : Program) (t : TypeId) : Option Sh0 :=
  match P.underlying t with
  | some .bool => some .bool
  | some (.int k) => some (.int k)
  | some .string => some .str
  | some (.slice e) => (sizeA P e).map fun s => .sl s .no
  | some (.interface _) => some .err
  | _ => none
def leaves (P : Program) : Nat → TypeId → Option (List Sh0)
  | 0, _ => none
  | d + 1, t =>
    match P.underlying t with
    | some (.struct fs) => (fs.toList.mapM fun f => leaves P d f.type).map List.flatten
    | some (.array n e) => (leaves P d e).map fun l => (List.replicate n l).flatten
    | _ => (leaf P t).map fun s => [s]
def shOf (P : Program) (t : TypeId) : Option Sh :=
  match aggA P t with
  | some true => (leaves P 5 t).map fun l => .val (.agg l)
  | some false => (leaf P t).map fun s => .val (.one s)
  | none => none

def takeAt (P : Program) (t : TypeId) (es : List AV) (i j : Nat) : Option AV :=
  match es[i]? with
  | some e => takeA (aggA P t) (sizeA P t) e.cells j
  | none => none

def someK {α : Type} (x : Option α) (K : α → Prop) : Prop :=
  match x with
  | some v => K v
  | none => False
theorem someK_imp {α : Type} {x : Option α} {K : α → Prop} (h : someK x K) : ∃ v, x = some v ∧ K v := by
  cases x with
  | none => exact h.elim
  | some v => exact ⟨v, rfl, h⟩

def loadW (P : Program) (S : St) (t : TypeId) (a : AV) (K : AV → Prop) : Prop :=
  match a with
  | .elt _ es i j => someK (shOf P t) fun sh => exSh sh fun v => takeAt P t es i j = some v ∧ forkB v K
  | .ptr b o =>
    match S.boxes[b]? with
    | some (some cs) =>
      if 40 < cs.length then someK (shOf P t) fun sh => exSh sh fun v => takeA (aggA P t) (sizeA P t) cs o = some v ∧ forkB v K
      else someK (if isRow cs then takeA (aggA P t) (sizeA P t) cs o else none) fun v => forkB v K
    | _ => False
  | _ => False
theorem loadW_imp {P : Program} {S : St} {t : TypeId} {a : AV} {K : AV → Prop} (h : loadW P S t a K) : ∃ v, loadA P S t a = some v ∧ K v := by
  unfold loadW at h
  unfold loadA
  split at h
  · obtain ⟨sh, _, h⟩ := someK_imp h
    obtain ⟨v, h1, h2⟩ := exSh_imp h
    exact ⟨v, h1, forkB_imp h2⟩
  · split at h
    · rename_i b o cs hb
      simp only [hb]
      split at h
      · rename_i hlen
        have hr : isRow cs = true := by
          unfold isRow
          split
          · simp at hlen
          · rfl
        obtain ⟨sh, _, h⟩ := someK_imp h
        obtain ⟨v, h1, h2⟩ := exSh_imp h
        exact ⟨v, by rw [if_pos hr]; exact h1, forkB_imp h2⟩
      · obtain ⟨v, h1, h2⟩ := someK_imp h
        exact ⟨v, h1, forkB_imp h2⟩
    · exact h.elim
  · exact h.elim

/-- equality of cells, all at once -/
def eqFieldsB (P : Program) (xs ys : List AV) : List Field → Option Bool
  | [] => some true
  | f :: fs =>
    if f.name = "_" then none else
    match subA P f.type xs f.offset, subA P f.type ys f.offset with
    | some x, some y =>
      match eqScalA P f.type x y, eqFieldsB P xs ys fs with
      | some a, some b => some (a && b)
      | _, _ => none
    | _, _ => none
def equalB (P : Program) (t : TypeId) (x y : AV) : Option Bool :=
  match x, y with
  | .agg xs, .agg ys =>
    if P.eqGuardType P.depth t then none else
    match P.underlying t with
    | some (.struct fs) => if P.stoodInHeld t || !(fs.toList.length < 39) then none else eqFieldsB P xs ys fs.toList
    | _ => none
  | _, _ => eqScalA P t x y

def binW (P : Program) (op : BinOp) (t : TypeId) (kc : Bool) (x y : AV) (K : AV → Prop) : Prop :=
  match x, y with
  | .int k a, .int k' b =>
    match op with
    | .shl => 0 ≤ b ∧ K (.int k (k.wrap (a * 2 ^ (min b.toNat k.bits))))
    | .shr => 0 ≤ b ∧ K (.int k (a.fdiv (2 ^ (min b.toNat k.bits))))
    | .quo => if k = k' then b ≠ 0 ∧ K (.int k (k.wrap (a.tdiv b))) else False
    | .rem => if k = k' then b ≠ 0 ∧ K (.int k (a.tmod b)) else False
    | op => if k = k' then someK (intA op k a b) fun v => forkB v K else False
  | .str a, .str b =>
    match op with
    | .add => a.length + b.length ≤ 9223372036854775807 ∧ K (.str (a ++ b))
    | op => someK (strA op a b) fun v => forkB v K
  | .agg xs, .agg ys =>
    match op with
    | .eql => someK (equalB P t (.agg xs) (.agg ys)) fun b => forkB (.bool b) K
    | .neq => someK (equalB P t (.agg xs) (.agg ys)) fun b => forkB (.bool !b) K
    | _ => False
  | .sl _sz es o, .sl _sz' [] .nil =>
    match P.underlying t, op, o with
    | some (.slice _), .eql, .nil => K (.bool true)
    | some (.slice _), .neq, .nil => K (.bool false)
    | some (.slice _), .eql, _ => es.isEmpty = false ∧ K (.bool false)
    | some (.slice _), .neq, _ => es.isEmpty = false ∧ K (.bool true)
    | _, _, _ => False
  | x, y => someK (binA P op t kc x y) fun v => forkB v K

theorem subA_agg {P : Program} {t : TypeId} {xs : List AV} {o : Nat} {x : AV} (h : subA P t xs o = some x) (d : Nat) (y : AV) (b : Bool) (hb : eqScalA P t x y = some b) : eqA P (d + 1) t x y = some b := by
  cases x <;> cases y <;> first | (simpa [eqA] using hb) | (simp [eqScalA] at hb)

theorem eqFieldsB_ok {P : Program} {xs ys : List AV} : ∀ {fs : List Field} {b : Bool} {d : Nat}, fs.length < d → eqFieldsB P xs ys fs = some b → eqFieldsA P d xs ys fs = some b
  | [], b, d, _, h => by cases d <;> simpa [eqFieldsB, eqFieldsA] using h
  | f :: fs, b, 0, hd, h => by simp at hd
  | f :: fs, b, d + 1, hd, h => by
    simp only [eqFieldsB] at h
    simp only [eqFieldsA]
    split at h
    · cases h
    · rename_i hn
      simp only [hn, if_false]
      split at h
      · rename_i x y hx hy
        simp only [hx, hy]
        split at h
        · rename_i p q hp hq
          simp only [Option.some.injEq] at h
          subst h
          obtain ⟨d, rfl⟩ : ∃ e, d = e + 1 := ⟨d - 1, by simp at hd; omega⟩
          rw [subA_agg hx d y p hp]
          cases p with
          | true => simpa using eqFieldsB_ok (by simpa using hd) hq
          | false => rfl
        · cases h
      · cases h

theorem equalB_ok {P : Program} {t : TypeId} {xs ys : List AV} {b : Bool} (h : equalB P t (.agg xs) (.agg ys) = some b) : equalA P t (.agg xs) (.agg ys) = some b := by
  simp only [equalB] at h
  simp only [equalA]
  split at h
  · cases h
  · rename_i hg
    simp only [hg, Bool.false_eq_true, if_false]
    split at h
    · rename_i fs hf
      split at h
      · cases h
      · rename_i hs
        simp only [Bool.or_eq_true, not_or, Bool.not_eq_true, Bool.not_eq_false', decide_eq_true_eq] at hs
        show eqA P (39 + 1) t _ _ = _
        simp only [eqA, hf, hs.1, Bool.false_eq_true, if_false]
        exact eqFieldsB_ok hs.2 h
    · cases h

theorem binW_imp {P : Program} {op : BinOp} {t : TypeId} {kc : Bool} {x y : AV} {K : AV → Prop} (h : binW P op t kc x y K) : ∃ v, binA P op t kc x y = some v ∧ K v := by
  have fk : ∀ {z : Option AV}, (someK z fun v => forkB v K) → ∃ v, z = some v ∧ K v := fun h => by
    obtain ⟨v, h1, h2⟩ := someK_imp h
    exact ⟨v, h1, forkB_imp h2⟩
  unfold binW at h
  split at h
  · rename_i k a k' b
    by_cases hk : k = k'
    · subst hk
      cases op <;> simp only [if_true] at h <;> simp only [binA, if_true]
      case shl => simp only [shiftA]; rw [if_neg (by omega)]; exact ⟨_, rfl, h.2⟩
      case shr => simp only [shiftA]; rw [if_neg (by omega)]; exact ⟨_, rfl, h.2⟩
      case quo => exact ⟨_, by simp only [intA]; rw [if_neg h.1], h.2⟩
      case rem => exact ⟨_, by simp only [intA]; rw [if_neg h.1], h.2⟩
      all_goals exact fk h
    · cases op <;> simp only [if_neg hk] at h <;> simp only [binA]
      case shl => simp only [shiftA]; rw [if_neg (by omega)]; exact ⟨_, rfl, h.2⟩
      case shr => simp only [shiftA]; rw [if_neg (by omega)]; exact ⟨_, rfl, h.2⟩
  · rename_i a b
    cases op <;> simp only at h <;> simp only [binA]
    case add => exact ⟨_, by simp only [strA]; rw [if_pos h.1], h.2⟩
    all_goals exact fk h
  · cases op <;> simp only at h <;> first | exact h.elim | skip
    · obtain ⟨b, h1, h2⟩ := someK_imp h
      exact ⟨_, by simp only [binA, equalB_ok h1, Option.map_some], forkB_imp h2⟩
    · obtain ⟨b, h1, h2⟩ := someK_imp h
      exact ⟨_, by simp only [binA, equalB_ok h1, Option.map_some], forkB_imp h2⟩
  · split at h
    · rename_i hu; exact ⟨_, by simp only [binA, hu, nilEqA, Option.map_some], h⟩
    · rename_i hu; exact ⟨_, by simp only [binA, hu, nilEqA, Option.map_some]; rfl, h⟩
    · rename_i o _ _ hu hne
      refine ⟨.bool false, ?_, h.2⟩
      simp only [binA, hu, nilEqA]
      split
      · rename_i he; rw [h.1] at he; cases he
      · rfl
    · rename_i o _ _ hu hne
      refine ⟨.bool true, ?_, h.2⟩
      simp only [binA, hu, nilEqA]
      split
      · rename_i he; rw [h.1] at he; cases he
      · rfl
    · exact h.elim
  · exact fk h

def indexAddrW (P : Program) (t : TypeId) (x i : AV) (K : AV → Prop) : Prop :=
  match P.underlying t, i with
  | some (.slice e), .int _ n =>
    match x with
    | .sl sz es _ => (0 ≤ n ∧ n < es.length) ∧ (if sizeA P e = some sz then K (.elt sz es n.toNat 0) else False)
    | _ => False
  | some (.array len e), .int _ n =>
    (0 ≤ n ∧ n < len) ∧
    match sizeA P e, x with
    | some s, .ptr b o => K (.ptr b (o + n.toNat * s))
    | some s, .elt sz es i j => K (.elt sz es i (j + n.toNat * s))
    | _, _ => False
  | _, _ => False
theorem indexAddrW_imp {P : Program} {t : TypeId} {x i : AV} {K : AV → Prop} (h : indexAddrW P t x i K) : ∃ v, indexAddrA P t x i = some v ∧ K v := by
  unfold indexAddrW at h
  split at h
  · rename_i e k n hu
    split at h
    · obtain ⟨h1, h2⟩ := h
      split at h2
      · rename_i hs
        exact ⟨_, by simp only [indexAddrA, hu]; rw [if_pos ⟨h1.1, h1.2, hs⟩], h2⟩
      · exact h2.elim
    · exact h.elim
  · rename_i len e k n hu
    obtain ⟨h1, h2⟩ := h
    split at h2
    · rename_i s b o hs
      exact ⟨_, by simp only [indexAddrA, hu, hs]; rw [if_pos h1], h2⟩
    · rename_i s sz es i j hs
      exact ⟨_, by simp only [indexAddrA, hu, hs]; rw [if_pos h1], h2⟩
    · exact h2.elim
  · exact h.elim

def indexW (P : Program) (t : TypeId) (x i : AV) (K : AV → Prop) : Prop :=
  match P.underlying t, x, i with
  | some .string, .str s, .int _ n => 0 ≤ n ∧ ∃ c, s[n.toNat]? = some c ∧ K (.int .u8 c.toNat)
  | some (.array _ _), .agg cs, .int k n => someK (indexA P t (.agg cs) (.int k n)) K
  | _, _, _ => False
theorem indexW_imp {P : Program} {t : TypeId} {x i : AV} {K : AV → Prop} (h : indexW P t x i K) : ∃ v, indexA P t x i = some v ∧ K v := by
  unfold indexW at h
  split at h
  · rename_i s k n hu
    obtain ⟨h1, c, h2, h3⟩ := h
    exact ⟨_, by simp only [indexA, hu]; rw [if_pos h1, h2]; rfl, h3⟩
  · exact someK_imp h
  · exact h.elim

def boundW (x : Option AV) (d : Nat) (K : Nat → Prop) : Prop :=
  match x with
  | none => K d
  | some (.int _ n) => 0 ≤ n ∧ K n.toNat
  | some _ => False
theorem boundW_imp {x : Option AV} {d : Nat} {K : Nat → Prop} (h : boundW x d K) : ∃ n, boundA x d = some n ∧ K n := by
  unfold boundW at h
  split at h
  · exact ⟨_, rfl, h⟩
  · exact ⟨_, by simp only [boundA]; rw [if_pos h.1], h.2⟩
  · exact h.elim

/-- who may append to a part: shown for both answers -/
def ownK (o : Own) (len l h : Nat) (m : Option (Option Nat)) (K : Own → Prop) : Prop :=
  match m with
  | some (some m) => (m = h → K .full) ∧ (m ≠ h → K .no)
  | some none => K .no
  | none =>
    match o with
    | .full => (h = len → K .full) ∧ (h ≠ len → K .no)
    | .tok t => (l = 0 ∧ h = len → K (.tok t)) ∧ (¬ (l = 0 ∧ h = len) → K .no)
    | .no | .nil => K .no
theorem ownK_imp {o : Own} {len l h : Nat} {m : Option (Option Nat)} {K : Own → Prop} (hk : ownK o len l h m K) : K (ownAfter o len l h m) := by
  unfold ownK at hk
  unfold ownAfter
  split at hk
  · simp only []
    split
    · rename_i e; exact hk.1 e
    · rename_i e; exact hk.2 e
  · exact hk
  · split at hk
    · simp only []
      split
      · rename_i e; exact hk.1 e
      · rename_i e; exact hk.2 e
    · simp only []
      split
      · rename_i e; exact hk.1 e
      · rename_i e; exact hk.2 e
    · exact hk
    · exact hk

def sliceW (P : Program) (t : TypeId) (x : AV) (lo hi mx : Option AV) (K : AV → Prop) : Prop :=
  match P.underlying t, x with
  | some .string, .str s =>
    match mx with
    | none => boundW lo 0 fun l => boundW hi s.length fun h => (l ≤ h ∧ h ≤ s.length) ∧ K (.str ((s.take h).drop l))
    | _ => False
  | some (.slice e), .sl sz es o =>
    someK (sizeA P e) fun s => boundW lo 0 fun l => boundW hi es.length fun h => (l ≤ h ∧ h ≤ es.length) ∧ (s = sz ∨ es = []) ∧
      match mx with
      | none => ownK o es.length l h none fun o' => K (.sl sz ((es.take h).drop l) o')
      | some (.int _ m) => (hi.isSome = true ∧ h ≤ m ∧ m ≤ es.length) ∧ ownK o es.length l h (some (some m.toNat)) fun o' => K (.sl sz ((es.take h).drop l) o')
      | _ => False
  | _, _ => False
theorem sliceW_imp {P : Program} {t : TypeId} {x : AV} {lo hi mx : Option AV} {K : AV → Prop} (h : sliceW P t x lo hi mx K) : ∃ v, sliceA P t x lo hi mx = some v ∧ K v := by
  unfold sliceW at h
  split at h
  · rename_i s hu
    split at h
    · obtain ⟨l, hl, h⟩ := boundW_imp h
      obtain ⟨m, hm, h⟩ := boundW_imp h
      exact ⟨_, by simp only [sliceA, hu, hl, hm]; rw [if_pos h.1], h.2⟩
    · exact h.elim
  · rename_i e sz es o hu
    obtain ⟨s, hs, h⟩ := someK_imp h
    obtain ⟨l, hl, h⟩ := boundW_imp h
    obtain ⟨m, hm, h⟩ := boundW_imp h
    obtain ⟨h1, h2, h3⟩ := h
    split at h3
    · exact ⟨_, by simp only [sliceA, hu, hl, hm, hs]; rw [if_pos ⟨h1.1, h1.2, h2⟩], ownK_imp h3⟩
    · exact ⟨_, by simp only [sliceA, hu, hl, hm, hs]; rw [if_pos ⟨h1.1, h1.2, h2⟩, if_pos h3.1], ownK_imp h3.2⟩
    · exact h3.elim
  · exact h.elim

def convertW (P : Program) (src dst : TypeId) (x : AV) (K : AV → Prop) : Prop :=
  match P.underlying src, P.underlying dst, x with
  | some (.slice e), some .string, .sl sz es _ =>
    match P.underlying e with
    | some (.int .u8) => (sz = 1 ∨ es = []) ∧ ∃ l, es.mapM byteOf = some l ∧ K (.str l)
    | _ => False
  | some .string, some (.slice e), .str s =>
    match P.underlying e with
    | some (.int .u8) => s.length ≤ 70368744177664 ∧ K (.sl 1 (s.map fun c => .int .u8 c.toNat) .no)
    | _ => False
  | _, _, _ => someK (convertA P src dst x) K
theorem convertW_imp {P : Program} {src dst : TypeId} {x : AV} {K : AV → Prop} (h : convertW P src dst x K) : ∃ v, convertA P src dst x = some v ∧ K v := by
  unfold convertW at h
  split at h
  · rename_i e sz es o hs hd
    split at h
    · rename_i he
      obtain ⟨h1, l, h2, h3⟩ := h
      exact ⟨_, by simp only [convertA, hs, hd, he]; rw [if_pos h1, h2]; rfl, h3⟩
    · exact h.elim
  · rename_i e s hs hd
    split at h
    · rename_i he
      exact ⟨_, by simp only [convertA, hs, hd, he]; rw [if_pos h.1], h.2⟩
    · exact h.elim
  · exact someK_imp h

def appendW (P : Program) (S : St) (t tx : TypeId) (x y : AV) (K : AV → St → Prop) : Prop :=
  match P.underlying t with
  | some (.slice e) =>
    match P.info? e, x with
    | some i, .sl sz es o =>
      (sz = i.size ∨ es = []) ∧
      if 0 < i.size ∧ (i.zero.map fun z => z.cells.size) = some i.size then
        someK (srcA P tx i.size y) fun ys => (es.length + ys.length) * (i.bytes + 1) ≤ roomA ∧
          match o.weak with
          | .tok k =>
            match S.live[k]? with
            | some (n, e') => if e' = e ∧ sz = i.size then n = es.length ∧ K (.sl i.size (es ++ ys) (.tok k)) { S with live := S.live.set k (es.length + ys.length, e) } else False
            | none => False
          | .full =>
            match y with
            | .sl _ _ .full =>
              match ys with
              | [] => K (.sl sz es o) S
              | c :: cs => K (.sl i.size (es ++ c :: cs) (.tok S.live.length)) { S with live := S.live ++ [(es.length + (c :: cs).length, e)] }
            | _ => (ys = [] → K (.sl sz es o) S) ∧ (ys ≠ [] → K (.sl i.size (es ++ ys) (.tok S.live.length)) { S with live := S.live ++ [(es.length + ys.length, e)] })
          | _ => False
      else False
    | _, _ => False
  | _ => False
theorem appendW_imp {P : Program} {S : St} {t tx : TypeId} {x y : AV} {K : AV → St → Prop} (h : appendW P S t tx x y K) : ∃ v S', appendA P S t tx x y = some (v, S') ∧ K v S' := by
  unfold appendW at h
  unfold appendA
  split at h
  · rename_i e hu
    split at h
    · rename_i i sz es o hi
      obtain ⟨h1, h⟩ := h
      split at h
      · rename_i h2
        obtain ⟨ys, hys, h'⟩ := someK_imp h
        clear h
        obtain ⟨h3, h⟩ := h'
        simp only [hu, hi, hys, h3, h2, h1, and_self, if_true]
        split at h
        · rename_i k hk
          split at h
          · rename_i n e' hlive
            split at h
            · rename_i h4
              obtain ⟨h6, h7⟩ := h4
              obtain ⟨h8, h9⟩ := h
              subst h6; subst h7; subst h8
              have hlt : k < S.live.length := (List.getElem?_eq_some_iff.1 hlive).1
              by_cases hnil : ys = []
              · subst hnil
                have ho : o = .tok k := by cases o <;> simp_all [Own.weak]
                subst ho
                rw [if_pos rfl]
                refine ⟨_, _, rfl, ?_⟩
                have e1 : S.live.set k (es.length, e') = S.live := by
                  apply List.ext_getElem?
                  intro j
                  rw [List.getElem?_set]
                  by_cases hj : k = j
                  · subst hj; rw [if_pos rfl, if_pos hlt, hlive]
                  · simp [hj]
                simp only [List.append_nil, List.length_nil, Nat.add_zero, e1] at h9
                exact h9
              · rw [if_neg hnil]
                simp only [hk, hlive, and_self, if_true]
                exact ⟨_, _, rfl, h9⟩
            · exact h.elim
          · exact h.elim
        · rename_i hk
          have key : (ys = [] → K (.sl sz es o) S) ∧ (ys ≠ [] → K (.sl i.size (es ++ ys) (.tok S.live.length)) { S with live := S.live ++ [(es.length + ys.length, e)] }) := by
            split at h
            · split at h
              · exact ⟨fun _ => h, fun hn => absurd rfl hn⟩
              · exact ⟨fun hn => absurd hn (by simp), fun _ => h⟩
            · exact h
          by_cases hnil : ys = []
          · rw [if_pos hnil]; exact ⟨_, _, rfl, key.1 hnil⟩
          · rw [if_neg hnil]
            simp only [hk]
            exact ⟨_, _, rfl, key.2 hnil⟩
        · exact h.elim
      · exact h.elim
    · exact h.elim
  · exact h.elim

def makeSliceW (P : Program) (S : St) (t : TypeId) (l c : AV) (K : AV → St → Prop) : Prop :=
  match P.underlying t, l, c with
  | some (.slice e), .int .i64 n, .int .i64 m =>
    someK (P.info? e) fun i => someK i.zero fun z =>
      (0 ≤ n ∧ n ≤ m ∧ m * (i.bytes + 1) ≤ roomA) ∧
      if z.cells.size = i.size ∧ 0 < i.size ∧ (absV z).closed1 ∧ (absV z).cells.length = i.size ∧ z.cells.toList.all (·.oneCell') then
        K (.sl i.size (List.replicate n.toNat (absV z)) (.tok S.live.length)) { S with live := S.live ++ [(n.toNat, e)] }
      else False
  | _, _, _ => False
theorem makeSliceW_imp {P : Program} {S : St} {t : TypeId} {l c : AV} {K : AV → St → Prop} (h : makeSliceW P S t l c K) : ∃ v S', makeSliceA P S t l c = some (v, S') ∧ K v S' := by
  unfold makeSliceW at h
  unfold makeSliceA
  split at h
  · rename_i e n m hu
    obtain ⟨i, hi, h⟩ := someK_imp h
    obtain ⟨z, hz, h⟩ := someK_imp h
    obtain ⟨h1, h⟩ := h
    split at h
    · rename_i h2
      simp only [hu, hi, hz]
      rw [if_pos ⟨h1.1, h1.2.1, h1.2.2, h2⟩]
      exact ⟨_, _, rfl, h⟩
    · exact h.elim
  · exact h.elim

/-- what a call's result looks like; whether it may be appended to -/
abbrev Shapes := FuncId → Option (Sh × Option TypeId)
def lvOf (o : Option TypeId) (r : AV) : List (Nat × TypeId) :=
  match o, r with
  | some e, .sl _ es _ => [(es.length, e)]
  | some e, .tup (.sl _ es _ :: _) => [(es.length, e)]
  | _, _ => []

/-- what a call answers -/
structure CallIs (x : Option (AV × List (Nat × TypeId))) (r : AV) (lv : List (Nat × TypeId)) : Prop where
  eq : x = some (r, lv)

/-- impure calls: what is asked, what comes of it -/
abbrev CCallee := FuncId → List AV → St → Option (Prop × AV × St)
open Classical in
noncomputable def lowC (C : CCallee) : ICallee := fun f args S =>
  match C f args S with
  | some x => if x.1 then some x.2 else none
  | none => none
def noCC : CCallee := fun _ _ _ => none
theorem lowC_no : lowC noCC = noC := rfl

def callW (X : Shapes) (R : Callee) (C : CCallee) (S : St) (f : FuncId) (args : List AV) (K : AV → St → Prop) : Prop :=
  if (args.map AV.strip1).all AV.closed1 then
    someK (X f) fun sh => exSh sh.1 fun r => CallIs (R f (args.map AV.strip1)) r (lvOf sh.2 r) ∧
      match lvOf sh.2 r with
      | [] => forkB r fun r => K r S
      | lv => K (adopt S.live.length r) { S with live := S.live ++ lv }
  else someK (C f args S) fun x => x.1 ∧ forkB x.2.1 fun r => K r x.2.2
theorem callW_imp {X : Shapes} {R : Callee} {C : CCallee} {S : St} {f : FuncId} {args : List AV} {K : AV → St → Prop} (h : callW X R C S f args K) : ∃ v S', callG R (lowC C) S f args = some (v, S') ∧ K v S' := by
  unfold callW at h
  unfold callG
  split at h
  · rename_i hc
    rw [if_pos hc]
    obtain ⟨sh, _, h⟩ := someK_imp h
    obtain ⟨r, hr, h⟩ := exSh_imp h
    unfold callA
    rw [if_pos hc, hr.eq]
    split at h
    · rename_i hlv
      simp only [hlv]
      exact ⟨_, _, rfl, forkB_imp h⟩
    · rename_i lv hlv
      cases hl : lvOf sh.2 r with
      | nil => exact absurd hl hlv
      | cons p l =>
        rw [hl] at h
        exact ⟨_, _, rfl, h⟩
  · rename_i hc
    rw [if_neg hc]
    obtain ⟨x, hx, hp, h⟩ := someK_imp h
    exact ⟨x.2.1, x.2.2, by simp only [lowC, hx]; rw [if_pos hp], forkB_imp h⟩

def nextW (S : St) (it : AV) (isString : Bool) (K : AV → St → Prop) : Prop :=
  match it, isString with
  | .ptr b 0, true =>
    match S.boxes[b]? with
    | some (some [.tup [.str l, .int .i64 p]]) =>
      (p.toNat < l.length → K (.tup [.bool true, .int .i64 p, .int .i32 (decodeL l p.toNat).1]) { S with boxes := S.boxes.set b (some [.tup [.str l, .int .i64 (p.toNat + (decodeL l p.toNat).2 : Nat)]]) }) ∧
      (l.length ≤ p.toNat → K (.tup [.bool false]) S)
    | _ => False
  | _, _ => False
theorem nextW_imp {S : St} {it : AV} {b : Bool} {K : AV → St → Prop} (h : nextW S it b K) : ∃ v S', nextA S it b = some (v, S') ∧ K v S' := by
  unfold nextW at h
  unfold nextA
  split at h
  · split at h
    · rename_i l p hb
      obtain ⟨h1, h2⟩ := h
      by_cases hlt : p.toNat < l.length
      · exact ⟨_, _, by simp only [hb]; rw [if_pos hlt], h1 hlt⟩
      · exact ⟨_, _, by simp only [hb]; rw [if_neg hlt], h2 (by omega)⟩
    · exact h.elim
  · exact h.elim

/-- what a map holds at a key -/
structure LookIs (es : List AV) (k z v : AV) : Prop where
  eq : (lookM es k).getD z = v
structure HasIs (es : List AV) (k : AV) (b : Bool) : Prop where
  eq : (lookM es k).isSome = b
/-- a key of this type -/
structure KeyIs (P : Program) (t : TypeId) (k : AV) : Prop where
  ok : (keyL P t k).isSome = true
/-- a value that may lie in a map -/
structure ValIs (v : AV) : Prop where
  ok : (valD v).isSome = true
def lookupW (P : Program) (S : St) (t : TypeId) (x k : AV) (ok : Bool) (K : AV → Prop) : Prop :=
  match mapAt S x, keyKind P t with
  | some (_, t', _, es), some (kt, et) =>
    match zeroA P et with
    | some z =>
      if t' = t ∧ (valD (absV z)).isSome then
        KeyIs P kt k ∧
        match ok with
        | false => someK (shOf P et) fun sh => exSh sh fun v => LookIs es k (absV z) v ∧ forkB v K
        | true => (HasIs es k true → someK (shOf P et) fun sh => exSh sh fun v => LookIs es k (absV z) v ∧ K (.tup [v, .bool true])) ∧ (HasIs es k false → K (.tup [absV z, .bool false]))
      else False
    | none => False
  | _, _ => False
theorem lookupW_imp {P : Program} {S : St} {t : TypeId} {x k : AV} {ok : Bool} {K : AV → Prop} (h : lookupW P S t x k ok K) : ∃ v, lookupA P S t x k ok = some v ∧ K v := by
  unfold lookupW at h
  unfold lookupA
  cases hma : mapAt S x with
  | none => simp [hma] at h
  | some q =>
  cases hkk : keyKind P t with
  | none => simp [hma, hkk] at h
  | some q2 =>
    obtain ⟨b, t', n, es⟩ := q
    obtain ⟨kt, et⟩ := q2
    simp only [hma, hkk] at h ⊢
    cases hz : zeroA P et with
    | none => simp [hz] at h
    | some z =>
      simp only [hz] at h ⊢
      split at h
      · rename_i hc
        obtain ⟨hk, h⟩ := h
        rw [if_pos ⟨hc.1, hk.ok, hc.2⟩]
        cases ok with
        | false =>
          obtain ⟨sh, _, h⟩ := someK_imp h
          obtain ⟨v, h1, h2⟩ := exSh_imp h
          exact ⟨v, by simp [h1.eq], forkB_imp h2⟩
        | true =>
          obtain ⟨h1, h2⟩ := h
          cases hl : lookM es k with
          | none => exact ⟨_, rfl, by simpa using h2 ⟨by rw [hl]; rfl⟩⟩
          | some a =>
            obtain ⟨sh, _, h⟩ := someK_imp (h1 ⟨by rw [hl]; rfl⟩)
            obtain ⟨v, h3, h4⟩ := exSh_imp h
            have h3 := h3.eq
            rw [hl] at h3
            refine ⟨_, rfl, ?_⟩
            simp only [if_true, Option.getD_some, Option.isSome_some] at h3 ⊢
            rw [h3]; exact h4
      · exact h.elim
def updateW (P : Program) (S : St) (t : TypeId) (x k v : AV) (K : St → Prop) : Prop :=
  match mapAt S x, keyKind P t with
  | some (b, t', n, es), some (kt, _) =>
    (if t' = t then True else False) ∧ KeyIs P kt k ∧ ValIs v ∧ 0 ≤ n ∧ n < 70368744177664 ∧ K { S with boxes := S.boxes.set b (some (mapC t (n + 1) (keptPutM es k v))) }
  | _, _ => False
theorem updateW_imp {P : Program} {S : St} {t : TypeId} {x k v : AV} {K : St → Prop} (h : updateW P S t x k v K) : ∃ S', updateA P S t x k v = some S' ∧ K S' := by
  unfold updateW at h
  unfold updateA
  cases hma : mapAt S x with
  | none => simp [hma] at h
  | some q =>
  cases hkk : keyKind P t with
  | none => simp [hma, hkk] at h
  | some q2 =>
    obtain ⟨b, t', n, es⟩ := q
    obtain ⟨kt, et⟩ := q2
    simp only [hma, hkk] at h ⊢
    obtain ⟨h0, h1, h2, h3, h4, h5⟩ := h
    have h0 : t' = t := by
      split at h0
      · assumption
      · exact h0.elim
    exact ⟨_, by rw [if_pos ⟨h0, h1.ok, h2.ok, h3, by unfold roomA; omega⟩], h5⟩
def deleteW (P : Program) (S : St) (t : TypeId) (x k : AV) (K : St → Prop) : Prop :=
  match mapAt S x, keyKind P t with
  | some (b, t', n, es), some (kt, _) =>
    (if t' = t then True else False) ∧ KeyIs P kt k ∧ K { S with boxes := S.boxes.set b (some (mapC t n (keptDelM es k))) }
  | _, _ => False
theorem deleteW_imp {P : Program} {S : St} {t : TypeId} {x k : AV} {K : St → Prop} (h : deleteW P S t x k K) : ∃ S', deleteA P S t x k = some S' ∧ K S' := by
  unfold deleteW at h
  unfold deleteA
  cases hma : mapAt S x with
  | none => simp [hma] at h
  | some q =>
  cases hkk : keyKind P t with
  | none => simp [hma, hkk] at h
  | some q2 =>
    obtain ⟨b, t', n, es⟩ := q
    obtain ⟨kt, et⟩ := q2
    simp only [hma, hkk] at h ⊢
    obtain ⟨h0, h1, h5⟩ := h
    have h0 : t' = t := by
      split at h0
      · assumption
      · exact h0.elim
    exact ⟨_, by rw [if_pos ⟨h0, h1.ok⟩], h5⟩

def opW (P : Program) (X : Shapes) (R : Callee) (C : CCallee) (ρ : Operand → AV) (bid : Nat) (S : St) (op : Op) (K : AV → St → Prop) : Prop :=
  match op with
  | .load t a => loadW P S t (ρ a) fun v => K v S
  | .binOp op t x y _ => binW P op t (isK x || isK y) (ρ x) (ρ y) fun v => K v S
  | .indexAddr t x i => indexAddrW P t (ρ x) (ρ i) fun v => K v S
  | .index t x i => indexW P t (ρ x) (ρ i) fun v => K v S
  | .slice t x lo hi mx => sliceW P t (ρ x) (lo.map ρ) (hi.map ρ) (mx.map ρ) fun v => K v S
  | .convert src dst x => convertW P src dst (ρ x) fun v => K v S
  | .makeSlice t l c => makeSliceW P S t (ρ l) (ρ c) K
  | .next it s => nextW S (ρ it) s K
  | .lookup t x k ok => lookupW P S t (ρ x) (ρ k) ok fun v => K v S
  | .mapUpdate t x k v => updateW P S t (ρ x) (ρ k) (ρ v) fun S' => K (.tup []) S'
  | .extract t i =>
    match ρ t with
    | .tup vs => someK vs[i]? fun v => forkB v fun v => K v S
    | _ => False
  | .call c =>
    match c.callee with
    | .builtin .append =>
      match c.argTypes.toList, c.args.toList with
      | [t, tx], [x, y] => appendW P S t tx (ρ x) (ρ y) K
      | _, _ => False
    | .builtin .delete =>
      match c.argTypes.toList, c.args.toList with
      | [t, t2], [x, y] => if (keyKind P t).map (·.1) = some t2 then deleteW P S t (ρ x) (ρ y) fun S' => K (.tup []) S' else False
      | _, _ => False
    | .value f =>
      match ρ f with
      | .fn g cap => callW X R C S g (c.args.toList.map ρ ++ cap) K
      | _ => False
    | _ => someK (opA P R (lowC C) ρ bid S (.call c)) fun x => K x.1 x.2
  | op => someK (opA P R (lowC C) ρ bid S op) fun x => K x.1 x.2

theorem opW_imp {P : Program} {X : Shapes} {R : Callee} {C : CCallee} {ρ : Operand → AV} {bid : Nat} {S : St} {op : Op} {K : AV → St → Prop} (h : opW P X R C ρ bid S op K) : ∃ v S', opA P R (lowC C) ρ bid S op = some (v, S') ∧ K v S' := by
  have pr : ∀ {z : Option AV}, (∃ v, z = some v ∧ K v S) → ∃ v S', z.map (·, S) = some (v, S') ∧ K v S' := fun ⟨v, h1, h2⟩ => ⟨v, S, by rw [h1]; rfl, h2⟩
  have df : ∀ {z : Option (AV × St)}, (someK z fun x => K x.1 x.2) → ∃ v S', z = some (v, S') ∧ K v S' := fun h => by
    obtain ⟨x, h1, h2⟩ := someK_imp h
    exact ⟨x.1, x.2, h1, h2⟩
  unfold opW at h
  split at h
  · exact pr (loadW_imp h)
  · exact pr (binW_imp h)
  · exact pr (indexAddrW_imp h)
  · exact pr (indexW_imp h)
  · exact pr (sliceW_imp h)
  · exact pr (convertW_imp h)
  · exact makeSliceW_imp h
  · obtain ⟨v, S', h1, h2⟩ := nextW_imp h
    exact ⟨v, S', by simp only [opA]; exact h1, h2⟩
  · obtain ⟨v, h1, h2⟩ := lookupW_imp h
    exact ⟨v, S, by simp only [opA]; rw [h1]; rfl, h2⟩
  · obtain ⟨S', h1, h2⟩ := updateW_imp h
    exact ⟨_, S', by simp only [opA]; rw [h1]; rfl, h2⟩
  · split at h
    · rename_i t i _ vs hv
      obtain ⟨v, h1, h2⟩ := someK_imp h
      exact ⟨v, S, by simp only [opA, hv, h1]; rfl, forkB_imp h2⟩
    · exact h.elim
  · rename_i c
    split at h
    · rename_i hc
      split at h
      · rename_i t tx x y ht hx
        obtain ⟨v, S', h1, h2⟩ := appendW_imp h
        exact ⟨v, S', by simp only [opA, hc, ht, hx, h1], h2⟩
      · exact h.elim
    · rename_i hc
      split at h
      · rename_i t t2 x y ht hx
        split at h
        · rename_i hkk
          obtain ⟨S', h1, h2⟩ := deleteW_imp h
          exact ⟨_, S', by simp only [opA, hc, ht, hx]; rw [if_pos hkk, h1]; rfl, h2⟩
        · exact h.elim
      · exact h.elim
    · rename_i f hc
      split at h
      · rename_i g cap hg
        obtain ⟨v, S', h1, h2⟩ := callW_imp h
        exact ⟨v, S', by simp only [opA, hc, hg, h1], h2⟩
      · exact h.elim
    · exact df h
  · exact df h
end Go.Abs

namespace Go.Abs
open Go.RowKit

def stepW (P : Program) (G : Glob) (X : Shapes) (R : Callee) (C : CCallee) (ops : List Oper) (bid : Nat) (o : Oper) (T : List AV) (S : St) (K : AV → St → Prop) : Prop :=
  match guardA ops T o with
  | some true => opW P X R C (evA G T) bid S o.op K
  | some false => K (.tup []) S
  | none => False
theorem stepW_imp {P : Program} {G : Glob} {X : Shapes} {R : Callee} {C : CCallee} {ops : List Oper} {bid : Nat} {o : Oper} {T : List AV} {S : St} {K : AV → St → Prop} (h : stepW P G X R C ops bid o T S K) :
    ∃ r S', stepA P G R (lowC C) ops bid o T S = some (r, S') ∧ K r S' := by
  unfold stepW at h
  unfold stepA
  split at h
  · rename_i hg
    rw [hg]
    exact opW_imp h
  · rename_i hg
    rw [hg]
    exact ⟨_, _, rfl, h⟩
  · exact h.elim

def listW (P : Program) (G : Glob) (X : Shapes) (R : Callee) (C : CCallee) (ops : List Oper) : List Oper → Nat → List AV → St → (List AV → St → Prop) → Prop
  | [], _, T, S, K => K T S
  | o :: l, bid, T, S, K => stepW P G X R C ops bid o T S fun r S' => listW P G X R C ops l (nextBid o bid) (putA T o.dst r) S' K
theorem listW_imp {P : Program} {G : Glob} {X : Shapes} {R : Callee} {C : CCallee} {ops : List Oper} : ∀ {l : List Oper} {bid : Nat} {T : List AV} {S : St} {K : List AV → St → Prop}, listW P G X R C ops l bid T S K →
    ∃ T' S', listA P G R (lowC C) ops l bid T S = some (T', S') ∧ K T' S'
  | [], _, _, _, _, h => ⟨_, _, rfl, h⟩
  | o :: l, bid, T, S, K, h => by
    obtain ⟨r, S1, h1, h⟩ := stepW_imp h
    obtain ⟨T', S', h2, h⟩ := listW_imp h
    exact ⟨T', S', by simp only [listA, h1, h2], h⟩

def logW (P : Program) (G : Glob) (X : Shapes) (R : Callee) (ops : List Oper) : List Oper → Nat → List AV → St → (List (List Loc × List Loc) → List AV → St → Prop) → Prop
  | [], _, T, S, K => K [] T S
  | o :: l, bid, T, S, K => stepW P G X R noCC ops bid o T S fun r S' => logW P G X R ops l (nextBid o bid) (putA T o.dst r) S' fun lg => K (entA G ops T bid S S' o :: lg)
theorem logW_imp {P : Program} {G : Glob} {X : Shapes} {R : Callee} {ops : List Oper} : ∀ {l : List Oper} {bid : Nat} {T : List AV} {S : St} {K : List (List Loc × List Loc) → List AV → St → Prop}, logW P G X R ops l bid T S K →
    ∃ lg T' S', logA P G R ops l bid T S = some (lg, T', S') ∧ K lg T' S'
  | [], _, _, _, _, h => ⟨_, _, _, rfl, h⟩
  | o :: l, bid, T, S, K, h => by
    obtain ⟨r, S1, h1, h⟩ := stepW_imp h
    rw [lowC_no] at h1
    obtain ⟨lg, T', S', h2, h⟩ := logW_imp h
    exact ⟨_, T', S', by simp only [logA, h1, h2], h⟩

def regionW (P : Program) (G : Glob) (X : Shapes) (R : Callee) (C : CCallee) (ops : List Oper) (draw : Bool) (T : List AV) (S : St) (K : List AV → St → Prop) : Prop :=
  if draw then
    if drawOk ops then logW P G X R ops ops S.boxes.length T (roomFor ops S) fun lg T' S' => if confOk ops lg then K T' S' else False
    else False
  else listW P G X R C ops ops S.boxes.length T (roomFor ops S) K
theorem regionW_imp {P : Program} {G : Glob} {X : Shapes} {R : Callee} {C : CCallee} {ops : List Oper} {draw : Bool} {T : List AV} {S : St} {K : List AV → St → Prop} (h : regionW P G X R C ops draw T S K) :
    ∃ T' S', regionA P G R (lowC C) ops draw T S = some (T', S') ∧ K T' S' := by
  unfold regionW at h
  unfold regionA
  split at h
  · rename_i hd
    rw [if_pos hd]
    split at h
    · rename_i ho
      rw [if_pos ho]
      obtain ⟨lg, T', S', h1, h⟩ := logW_imp h
      split at h
      · rename_i hc
        simp only [h1]
        rw [if_pos hc]
        exact ⟨_, _, rfl, h⟩
      · exact h.elim
    · exact h.elim
  · rename_i hd
    rw [if_neg hd]
    exact listW_imp h

abbrev WK := AExit → List AV → St → Prop
abbrev WStep := List AV → St → WK → Prop

def seqK (f : WStep) (K : WK) : WK := fun x T S =>
  match x with
  | .normal => f T S K
  | x => K x T S
def blockK (id : Nat) (K : WK) : WK := fun x T S =>
  match x with
  | .exit id' => if id' = id then K .normal T S else K (.exit id') T S
  | x => K x T S

/-- what holds where a loop begins, or a label stands -/
structure Ann where
  α : Type
  /-- slots that are read again, and what they hold -/
  slots : List Nat
  vals : α → List AV
  /-- variables -/
  nb : Nat
  sS : α → St
  I : α → Prop
  μ : α → Nat
  mint : List (Nat × TypeId) := []
  /-- variables that hold nil slices which will be appended to -/
  mintB : List (Nat × TypeId) := []
  bools : List Nat := []
  /-- a loop of few rounds: walked round by round -/
  unroll : Nat := 0
  /-- rounds walked ahead of the annotation -/
  peel : Nat := 0
  /-- how many owners are kept where it lands -/
  keep : Option Nat := none
  /-- at a cut: what the state has to do with the slots ahead -/
  rel : List AV → α → Prop := fun _ _ => True
  /-- at a loop inside a loop: what it has to do with the slots ahead -/
  link : Option (List AV → α → Prop) := none

def mintW (P : Program) : List (Nat × TypeId) → List AV → St → (List AV → St → Prop) → Prop
  | [], T, S, K => K T S
  | (t, e) :: l, T, S, K =>
    match T[t]?, sizeA P e with
    | some (.sl _ es .nil), some sz =>
      match es with
      | [] => mintW P l (T.set t (.sl sz [] (.tok S.live.length))) { S with live := S.live ++ [(0, e)] } K
      | _ => mintW P l T S K
    | _, _ => mintW P l T S K

def mintBW (P : Program) : List (Nat × TypeId) → St → (St → Prop) → Prop
  | [], S, K => K S
  | (b, e) :: l, S, K =>
    match S.boxes[b]?, sizeA P e with
    | some (some [.sl _ es .nil]), some sz =>
      match es with
      | [] => mintBW P l { boxes := S.boxes.set b (some [.sl sz [] (.tok S.live.length)]), live := S.live ++ [(0, e)] } K
      | _ => mintBW P l S K
    | _, _ => mintBW P l S K

def cutTo (nb : Nat) (T : List AV) (S : St) : Option St :=
  if S.boxes.length ≤ nb then some S else
  if T.all (AV.p2 nb) && boxesOk nb (S.boxes.take nb) then some { S with boxes := S.boxes.take nb } else none

def headT (len : Nat) (slots : List Nat) (vs : List AV) : List AV := (List.range len).map fun i => ((slots.zip vs).lookup i).getD .junk

/-- what slots hold; what variables hold -/
structure ValsAre (a b : List AV) : Prop where
  eq : a = b
structure StIs (a b : St) : Prop where
  eq : a = b

def landV (n0 len : Nat) (an : Ann) (T : List AV) (S : St) (p : an.α → Prop) : Prop :=
  if n0 ≤ an.nb ∧ T.length = len then ∃ y, ValsAre (an.slots.map (fun i => T.getD i (.tup []))) (an.vals y) ∧ someK (cutTo an.nb (headT len an.slots (an.vals y)) S) (fun S' => StIs S' (an.sS y)) ∧ an.I y ∧ p y else False

def landW (n0 l0 len : Nat) (an : Ann) (T : List AV) (S : St) (p : an.α → Prop) : Prop :=
  match an.keep with
  | none => landV n0 len an T S p
  | some n => if l0 ≤ n ∧ boxesT n S.boxes = true then landV n0 len an (T.map (stripT n)) { S with live := S.live.take n } p else False

def landM (P : Program) (n0 l0 len : Nat) (an : Ann) (T : List AV) (S : St) (p : an.α → Prop) : Prop :=
  mintW P an.mint T S fun T' S' => mintBW P an.mintB S' fun S'' => landW n0 l0 len an T' S'' p

def forkT : List Nat → List AV → (List AV → Prop) → Prop
  | [], T, K => K T
  | t :: l, T, K =>
    match T[t]? with
    | some (.bool b) => (b = true → forkT l (T.set t (.bool true)) K) ∧ (b = false → forkT l (T.set t (.bool false)) K)
    | _ => forkT l T K
theorem forkT_imp : ∀ {l : List Nat} {T : List AV} {K : List AV → Prop}, forkT l T K → K T
  | [], _, _, h => h
  | t :: l, T, K, h => by
    simp only [forkT] at h
    split at h
    · rename_i b hb
      have e : T.set t (.bool b) = T := by
        apply List.ext_getElem?
        intro j
        rw [List.getElem?_set]
        by_cases hj : t = j
        · subst hj
          have hlt := (List.getElem?_eq_some_iff.1 hb).1
          rw [if_pos rfl, if_pos hlt, hb]
        · simp [hj]
      cases b with
      | true => have := forkT_imp (h.1 rfl); rwa [e] at this
      | false => have := forkT_imp (h.2 rfl); rwa [e] at this
    · exact forkT_imp h

/-- where a tool may stop and look -/
abbrev Mk := List AV → St → (List AV → St → Prop) → Prop
def idMk : Mk := fun T S p => p T S

def unrollW (f : WStep) : Nat → WStep
  | 0 => fun _ _ _ => False
  | n + 1 => fun T S K => f T S fun e T' S' =>
    match e with
    | .normal => unrollW f n T' S' K
    | e => K e T' S'
def annW (P : Program) (mk : Mk) (an : Ann) (f : WStep) : WStep := fun T S K =>
  match an.link with
  | none =>
    landM P S.boxes.length S.live.length T.length an T S (fun _ => True) ∧
    ∀ x, an.I x → forkT an.bools (headT T.length an.slots (an.vals x)) fun T' => mk T' (an.sS x) fun T' S0 => f T' S0 fun e T'' S'' =>
      match e with
      | .normal => landW S.boxes.length S.live.length T.length an T'' S'' fun y => an.μ y < an.μ x
      | e => K e T'' S''
  | some r =>
    landM P S.boxes.length S.live.length T.length an T S (r T) ∧
    ∀ x, an.I x → r T x → forkT an.bools (headT T.length an.slots (an.vals x)) fun T' => mk T' (an.sS x) fun T' S0 => f T' S0 fun e T'' S'' =>
      match e with
      | .normal => landW S.boxes.length S.live.length T.length an T'' S'' fun y => r T y ∧ an.μ y < an.μ x
      | e => K e T'' S''
def peelW (f g : WStep) : Nat → WStep
  | 0 => g
  | n + 1 => fun T S K => f T S fun e T' S' =>
    match e with
    | .normal => peelW f g n T' S' K
    | e => K e T' S'
def loopW (P : Program) (mk : Mk) (an : Option Ann) (f : WStep) : WStep := fun T S K =>
  match an with
  | none => False
  | some an =>
    match an.unroll with
    | n + 1 => unrollW f (n + 1) T S K
    | 0 => peelW f (annW P mk an f) an.peel T S K

def firstReg : Code → Nat
  | .region id _ _ => id
  | .seq a _ => firstReg a
  | .block _ b | .loop b | .scope b => firstReg b
  | _ => 0
/-- code behind code; where an annotation stands the second is shown once -/
def cutW (P : Program) (mk : Mk) (an : Option Ann) (f g : WStep) : WStep := fun T S K =>
  match an with
  | none => f T S (seqK g K)
  | some an => (f T S fun e T' S' =>
      match e with
      | .normal => landM P S.boxes.length S.live.length T.length an T' S' (an.rel T)
      | e => K e T' S') ∧
    ∀ x, an.I x → an.rel T x → forkT an.bools (headT T.length an.slots (an.vals x)) fun T' => mk T' (an.sS x) fun T' S0 => g T' S0 K
/-- the number of a cut ahead of a region -/
abbrev cutAt (id : Nat) : Nat := 1000000 + id

/-- what is to be shown where a label is come to from ahead -/
abbrev Ld := Nat → Option (List AV → St → Prop)
def noLd : Ld := fun _ => none
def ldOf (P : Program) (n0 l0 len : Nat) (A : Nat → Option Ann) (p : Nat → Prop) : Ld := fun l => (A l).map fun an T S => landM P n0 l0 len an T S fun y => p (an.μ y)

/-- where a jump goes -/
def jumpK (P : Program) (n0 l0 len : Nat) (A : Nat → Option Ann) (ls : List Nat) (p : Nat → Prop) (K : WK) : WK := fun e T S =>
  match e with
  | .goto l =>
    if l ∈ ls then
      match A l with
      | none => False
      | some an => landM P n0 l0 len an T S fun y => p (an.μ y)
    else K (.goto l) T S
  | e => K e T S

def allL (p : Nat → Prop) : List Nat → Prop
  | [] => True
  | l :: ls => p l ∧ allL p ls
theorem allL_mem {p : Nat → Prop} : ∀ {ls : List Nat}, allL p ls → ∀ l ∈ ls, p l
  | [], _, l, h => by simp at h
  | a :: ls, h, l, hl => by
    rcases List.mem_cons.1 hl with rfl | hl
    · exact h.1
    · exact allL_mem h.2 l hl
def scopeW (P : Program) (mk : Mk) (A : Nat → Option Ann) (ls : List Nat) (f : Ld → WStep) (k : Ld → Nat → Option WStep) : WStep := fun T S K =>
  if ls.Nodup then
    f (ldOf P S.boxes.length S.live.length T.length A fun _ => True) T S (jumpK P S.boxes.length S.live.length T.length A ls (fun _ => True) K) ∧
    allL (fun l => match A l with
      | some an => ∀ x, an.I x → forkT an.bools (headT T.length an.slots (an.vals x)) fun T' =>
        match k (ldOf P S.boxes.length S.live.length T.length A fun m => m < an.μ x) l with
        | some g => mk T' (an.sS x) fun T' S0 => g T' S0 (jumpK P S.boxes.length S.live.length T.length A ls (fun m => m < an.μ x) K)
        | none => False
      | none => True) ls
  else False

def labelsOf : Code → List Nat
  | .seq a b => labelsOf a ++ labelsOf b
  | .label l => [l]
  | _ => []

structure Anns where
  loop : Nat → Option Ann
  label : Nat → Option Ann

mutual
def codeW (P : Program) (mk : Mk) (G : Glob) (X : Shapes) (R : Callee) (C : CCallee) (A : Anns) (m : List Bool) : Code → Ld → WStep
  | .skip => fun _ T S K => K .normal T S
  | .region _ ops draw => fun _ T S K => regionW P G X R C ops.toList draw T S fun T' S' => mk (maskA m T') S' (K .normal)
  | .seq a b => fun ld => cutW P mk (A.loop (cutAt (firstReg b))) (codeW P mk G X R C A m a ld) (codeW P mk G X R C A m b ld)
  | .cond c x y => fun _ T S K =>
    match evA G T c with
    | .bool true => codeW P mk G X R C A m x noLd T S K
    | .bool false => codeW P mk G X R C A m y noLd T S K
    | _ => False
  | .block id b => fun _ T S K => codeW P mk G X R C A m b noLd T S (blockK id K)
  | .loop b => fun _ => loopW P mk (A.loop (firstReg b)) (codeW P mk G X R C A m b noLd)
  | .exit id => fun _ T S K => K (.exit id) T S
  | .scope b => fun _ => scopeW P mk A.label (labelsOf b) (codeW P mk G X R C A m b) (fromW P mk G X R C A m b)
  | .label l => fun ld T S K =>
    match ld l with
    | some p => p T S
    | none => K .normal T S
  | .goto l => fun _ T S K => K (.goto l) T S
  | .ret => fun _ T S K => K .ret T S
  | .rangeFunc .. => fun _ _ _ _ => False
  | .refuse _ => fun _ _ _ _ => False
def fromW (P : Program) (mk : Mk) (G : Glob) (X : Shapes) (R : Callee) (C : CCallee) (A : Anns) (m : List Bool) : Code → Ld → Nat → Option WStep
  | .seq a b => fun ld l =>
    match fromW P mk G X R C A m a ld l with
    | some f => some fun T S K => f T S (seqK (codeW P mk G X R C A m b ld) K)
    | none => fromW P mk G X R C A m b ld l
  | .label l' => fun _ l => if l' == l then some fun T S K => K .normal T S else none
  | _ => fun _ _ => none
end

def WOk (P : Program) (G : Glob) (N0 : Nat) (w0 : World) (I0 : Nat → Nat → Prop) (f : WStep) (c : Code) : Prop :=
  ∀ (T : List AV) (S : St) (K : WK) (E : Env) (a : Act) (w : World) (Q : Exit → Act → World → Prop), f T S K → SR P G N0 w0 I0 S E w → TR E w T a.tmps →
    (∀ x T' S' E' w' a', K x T' S' → SR P G N0 w0 I0 S' E' w' → Env.Le E E' w w' → TR E' w' T' a'.tmps → a'.defers = a.defers → Q x.to a' w') → c.wp P Q a w

section
variable {P : Program} {G : Glob} {N0 : Nat} {w0 : World} {I0 : Nat → Nat → Prop}

theorem regionW_ok {X : Shapes} {R : Callee} {C : CCallee} (hm : P.follows .mixedOrders = true) (hR : CalleeOk P G R) (hC : ICalleeOk P G (lowC C)) {id : Nat} {ops : Array Oper} {draw : Bool} {m : List Bool} :
    WOk P G N0 w0 I0 (fun T S K => regionW P G X R C ops.toList draw T S fun T' S' => K .normal (maskA m T') S') (.region id ops draw) := by
  intro T S K E a w Q h hS hT hQ
  obtain ⟨T', S', h1, h2⟩ := regionW_imp h
  exact regionA_wp (m := m) hm hR hC T S .normal (maskA m T') S' E a w Q (by simp only [h1]) hS hT fun E' w' a' k1 k2 k3 k4 => hQ .normal _ _ E' w' a' h2 k1 k2 k3 k4

theorem seqW_ok {f g : WStep} {c d : Code} (hf : WOk P G N0 w0 I0 f c) (hg : WOk P G N0 w0 I0 g d) : WOk P G N0 w0 I0 (fun T S K => f T S (seqK g K)) (.seq c d) := by
  intro T S K E a w Q h hS hT hQ
  refine wp_seq (hf T S _ E a w _ h hS hT fun x T' S' E' w' a' hk k1 k2 k3 k4 => ?_)
  cases x with
  | normal => exact hg T' S' K E' a' w' Q hk k1 k3 fun x T2 S2 E2 w2 a2 l0 l1 l2 l3 l4 => hQ x T2 S2 E2 w2 a2 l0 l1 (k2.trans l2) l3 (l4.trans k4)
  | exit id => exact hQ _ _ _ E' w' a' hk k1 k2 k3 k4
  | goto l => exact hQ _ _ _ E' w' a' hk k1 k2 k3 k4
  | ret => exact hQ _ _ _ E' w' a' hk k1 k2 k3 k4

theorem blockW_ok {f : WStep} {c : Code} {id : Nat} (hf : WOk P G N0 w0 I0 f c) : WOk P G N0 w0 I0 (fun T S K => f T S (blockK id K)) (.block id c) := by
  intro T S K E a w Q h hS hT hQ
  refine wp_block (hf T S _ E a w _ h hS hT fun x T' S' E' w' a' hk k1 k2 k3 k4 => ?_)
  cases x with
  | normal => exact hQ _ _ _ E' w' a' hk k1 k2 k3 k4
  | goto l => exact hQ _ _ _ E' w' a' hk k1 k2 k3 k4
  | ret => exact hQ _ _ _ E' w' a' hk k1 k2 k3 k4
  | exit id' =>
    simp only [blockK] at hk
    show (if id' = id then Q .normal a' w' else Q (.exit id') a' w')
    split at hk
    · rename_i e; rw [if_pos e]; exact hQ _ _ _ E' w' a' hk k1 k2 k3 k4
    · rename_i e; rw [if_neg e]; exact hQ _ _ _ E' w' a' hk k1 k2 k3 k4

theorem rep_mint {E E' : Env} {w : World} {sz0 sz L : Nat} {v : Value} (h : Rep E w (.sl sz0 [] .nil) v) (hk : E'.K L 0 (.slice none 0 0)) : Rep E' w (.sl sz [] (.tok L)) v := by
  cases h with | sl _ _ _ A cap u hcap hmax hA hsz hcl ho hr h1 =>
  simp only [OwnOk] at ho
  injection ho with h1' h2 h3
  subst h1'; subst h3
  exact .sl sz [] (.tok L) none 0 u (by simp) (by simp [maxLen]) (.inl rfl) (by simp) (by simp) hk (by simp) h1

theorem mintW_ok {E0 : Env} {w1 w : World} {tm : Array Value} : ∀ {l : List (Nat × TypeId)} {T : List AV} {S : St} {E : Env} {K : List AV → St → Prop}, mintW P l T S K → SR P G N0 w0 I0 S E w → Env.Le E0 E w1 w → TR E w T tm →
    ∃ T' S' E', K T' S' ∧ S'.boxes = S.boxes ∧ SR P G N0 w0 I0 S' E' w ∧ Env.Le E0 E' w1 w ∧ TR E' w T' tm
  | [], T, S, E, K, h, hS, hL, hT => ⟨T, S, E, h, rfl, hS, hL, hT⟩
  | (t, e) :: l, T, S, E, K, h, hS, hL, hT => by
    simp only [mintW] at h
    split at h
    · rename_i sz0 es sz ht hs
      split at h
      case h_2 => exact mintW_ok h hS hL hT
      obtain ⟨hS', hL'⟩ := hS.mint (e := e) hs
      obtain ⟨T', S', E', h1, h2, h3⟩ := mintW_ok (tm := tm) h hS' (hL.trans hL') (by
        refine ⟨by simp [hT.1], fun i c v hi hv => ?_⟩
        rw [List.getElem?_set] at hi
        by_cases hj : t = i
        · subst hj
          have hlt := (List.getElem?_eq_some_iff.1 ht).1
          rw [if_pos rfl, if_pos hlt] at hi
          injection hi with hi
          subst hi
          exact rep_mint (hT.2 t _ v ht hv) (.inr ⟨rfl, rfl, rfl⟩)
        · rw [if_neg hj] at hi
          exact (hT.2 i c v hi hv).le hL')
      exact ⟨T', S', E', h1, h2, h3⟩
    · exact mintW_ok h hS hL hT

theorem lookup_zip {g : Nat → AV} : ∀ {slots : List Nat} {vs : List AV} {i : Nat} {v : AV}, slots.map g = vs → (slots.zip vs).lookup i = some v → v = g i
  | [], vs, i, v, h, hl => by simp at hl
  | a :: slots, [], i, v, h, hl => by simp at hl
  | a :: slots, x :: vs, i, v, h, hl => by
    simp only [List.map_cons, List.cons.injEq] at h
    simp only [List.zip_cons_cons, List.lookup_cons] at hl
    split at hl
    · rename_i e
      simp only [beq_iff_eq] at e
      injection hl with hl
      rw [← hl, ← h.1, e]
    · exact lookup_zip h.2 hl

theorem headT_rep {E : Env} {w : World} {T : List AV} {tm : Array Value} (hT : TR E w T tm) {len : Nat} {slots : List Nat} {vs : List AV} (hl : T.length = len) (h : slots.map (fun i => T.getD i (.tup [])) = vs) : TR E w (headT len slots vs) tm := by
  refine ⟨by simp only [headT, List.length_map, List.length_range]; rw [← hl]; exact hT.1, fun i c v hi hv => ?_⟩
  simp only [headT, List.getElem?_map] at hi
  cases hr : (List.range len)[i]? with
  | none => simp [hr] at hi
  | some j =>
    have hj : j = i := by
      have := List.getElem?_eq_some_iff.1 hr
      obtain ⟨h1, h2⟩ := this
      simpa using h2.symm
    subst hj
    rw [hr] at hi
    simp only [Option.map_some, Option.some.injEq] at hi
    cases hlk : (slots.zip vs).lookup j with
    | none => rw [hlk] at hi; simp at hi; subst hi; exact .junk v
    | some x =>
      rw [hlk] at hi
      simp only [Option.getD_some] at hi
      subst hi
      rw [lookup_zip h hlk]
      have := hT.get j
      have hv' : tm.getD j undef = v := by
        have hlt := (Array.getElem?_eq_some_iff.1 hv).1
        simp only [Array.getD, hlt, dif_pos]
        exact (Array.getElem?_eq_some_iff.1 hv).2
      rw [hv'] at this
      exact this

theorem landV_ok {n0 len : Nat} {an : Ann} {T : List AV} {S S0 : St} {p : an.α → Prop} {E0 E : Env} {w1 w : World} {tm : Array Value} (h : landV n0 len an T S p) (hS0 : SR P G N0 w0 I0 S0 E0 w1) (hn : S0.boxes.length = n0)
    (hS : SR P G N0 w0 I0 S E w) (hL : Env.Le E0 E w1 w) (hT : TR E w T tm) : ∃ y E', SR P G N0 w0 I0 (an.sS y) E' w ∧ Env.Le E0 E' w1 w ∧ TR E' w (headT len an.slots (an.vals y)) tm ∧ an.I y ∧ p y := by
  unfold landV at h
  split at h
  · rename_i hle
    obtain ⟨hle, hlen⟩ := hle
    obtain ⟨y, ⟨h1⟩, h2, h3, h4⟩ := h
    obtain ⟨S2, h2, ⟨h2'⟩⟩ := someK_imp h2
    subst h2'
    have hT1 := headT_rep hT hlen h1
    unfold cutTo at h2
    split at h2
    · injection h2 with h2
      rw [h2] at hS
      exact ⟨y, E, hS, hL, hT1, h3, h4⟩
    · split at h2
      · rename_i hok
        simp only [Bool.and_eq_true] at hok
        injection h2 with h2
        have hc := hS.cut hok.2
        rw [h2] at hc
        refine ⟨y, _, hc, ⟨hL.I, fun b x hb => ?_, hL.K⟩, ⟨hT1.1, fun i c v hi hv => (hT1.2 i c v hi hv).cut (pb2 (List.all_eq_true.1 hok.1 c (List.mem_of_getElem? hi)))⟩, h3, h4⟩
        have := (hS0.Blt b x hb).1
        have hlt : b < an.nb := by omega
        simp [cutB, hlt, hL.B b x hb]
      · cases h2
  · exact h.elim

theorem landW_ok {n0 l0 len : Nat} {an : Ann} {T : List AV} {S S0 : St} {p : an.α → Prop} {E0 E : Env} {w1 w : World} {tm : Array Value} (h : landW n0 l0 len an T S p) (hS0 : SR P G N0 w0 I0 S0 E0 w1) (hn : S0.boxes.length = n0) (hl0 : S0.live.length = l0)
    (hS : SR P G N0 w0 I0 S E w) (hL : Env.Le E0 E w1 w) (hT : TR E w T tm) : ∃ y E', SR P G N0 w0 I0 (an.sS y) E' w ∧ Env.Le E0 E' w1 w ∧ TR E' w (headT len an.slots (an.vals y)) tm ∧ an.I y ∧ p y := by
  unfold landW at h
  split at h
  · exact landV_ok h hS0 hn hS hL hT
  · rename_i n _
    split at h
    · rename_i hc
      refine landV_ok h hS0 hn (hS.cutK hc.2) ⟨hL.I, hL.B, fun t m v hk => ⟨hL.K t m v hk, ?_⟩⟩ ⟨by rw [List.length_map]; exact hT.1, fun i c v hi hv => ?_⟩
      · obtain ⟨m', e, hm, _⟩ := hS0.Klt t m v hk
        have := (List.getElem?_eq_some_iff.1 hm).1
        omega
      · rw [List.getElem?_map] at hi
        cases hT' : T[i]? with
        | none => simp [hT'] at hi
        | some a =>
          simp [hT'] at hi
          subst hi
          exact (hT.2 i a v hT' hv).stripT
    · exact h.elim

theorem SR.setBox {S : St} {E : Env} {w : World} (h : SR P G N0 w0 I0 S E w) {id : Nat} {cs cs' : List AV} (hb : S.boxes[id]? = some (some cs)) (hr : isRow cs = true) (hr' : isRow cs' = true) (hlen : cs'.length = cs.length)
    (hrep : ∀ (i : Nat) (c' : AV) (v : Value), cs'[i]? = some c' → (∀ c, cs[i]? = some c → Rep E w c v) → Rep E w c' v) : SR P G N0 w0 I0 { S with boxes := S.boxes.set id (some cs') } E w := by
  refine ⟨h.below, h.n0, h.Ilt, h.Iold, fun id' b hB => ?_, h.Binj, fun id' cs1 hi => ?_, h.glob, fun id' hi => ?_, h.Klt, h.Kblk, h.live⟩
  · simpa using h.Blt id' b hB
  · simp only [List.getElem?_set] at hi
    split at hi
    · rename_i e
      subst e
      split at hi
      · simp only [Option.some.injEq] at hi
        subst hi
        obtain ⟨blk, h1, hx⟩ := h.box id cs hb
        obtain ⟨arr, ty, h2, h3, h4⟩ := hx.cells hr
        refine ⟨blk, h1, .row arr ty hr' h2 (by omega) fun i c v hc hv => ⟨hrep i c v hc fun c0 hc0 => (h4 i c0 v hc0 hv).1, ?_⟩⟩
        have hlt : i < cs.length := by
          have := (List.getElem?_eq_some_iff.1 hc).1
          omega
        exact (h4 i cs[i] v (List.getElem?_eq_getElem hlt) hv).2
      · cases hi
    · exact h.box id' cs1 hi
  · simp only [List.getElem?_set] at hi
    split at hi
    · split at hi <;> simp at hi
    · exact h.hole id' hi

theorem mintBW_ok {E0 : Env} {w1 w : World} {tm : Array Value} {T : List AV} : ∀ {l : List (Nat × TypeId)} {S : St} {E : Env} {K : St → Prop}, mintBW P l S K → SR P G N0 w0 I0 S E w → Env.Le E0 E w1 w → TR E w T tm →
    ∃ S' E', K S' ∧ S'.boxes.length = S.boxes.length ∧ SR P G N0 w0 I0 S' E' w ∧ Env.Le E0 E' w1 w ∧ TR E' w T tm
  | [], S, E, K, h, hS, hL, hT => ⟨S, E, h, rfl, hS, hL, hT⟩
  | (b, e) :: l, S, E, K, h, hS, hL, hT => by
    simp only [mintBW] at h
    split at h
    · rename_i sz0 es sz hb hs
      split at h
      case h_2 => exact mintBW_ok h hS hL hT
      obtain ⟨hS', hL'⟩ := hS.mint (e := e) hs
      have hS2 := hS'.setBox (id := b) (cs := [.sl sz0 [] .nil]) (cs' := [.sl sz [] (.tok S.live.length)]) hb rfl rfl rfl (fun i c' v hc hv => by
        match i, hc with
        | 0, hc =>
          simp at hc
          subst hc
          exact rep_mint (hv _ rfl) (.inr ⟨rfl, rfl, rfl⟩)
        | i + 1, hc => simp at hc)
      obtain ⟨S', E', h1, h2, h3⟩ := mintBW_ok (tm := tm) (T := T) h hS2 (hL.trans hL') (hT.le hL')
      exact ⟨S', E', h1, by simpa using h2, h3⟩
    · exact mintBW_ok h hS hL hT

theorem landM_ok {n0 l0 len : Nat} {an : Ann} {T : List AV} {S S0 : St} {p : an.α → Prop} {E0 E : Env} {w1 w : World} {tm : Array Value} (h : landM P n0 l0 len an T S p) (hS0 : SR P G N0 w0 I0 S0 E0 w1) (hn : S0.boxes.length = n0) (hl0 : S0.live.length = l0)
    (hS : SR P G N0 w0 I0 S E w) (hL : Env.Le E0 E w1 w) (hT : TR E w T tm) : ∃ y E', SR P G N0 w0 I0 (an.sS y) E' w ∧ Env.Le E0 E' w1 w ∧ TR E' w (headT len an.slots (an.vals y)) tm ∧ an.I y ∧ p y := by
  obtain ⟨T1, S1, E1, k1, _, k3, k4, k5⟩ := mintW_ok h hS hL hT
  obtain ⟨S2, E2, m1, _, m3, m4, m5⟩ := mintBW_ok k1 k3 k4 k5
  exact landW_ok m1 hS0 hn hl0 m3 m4 m5

theorem unrollW_ok {f : WStep} {c : Code} (hf : WOk P G N0 w0 I0 f c) (n : Nat) : WOk P G N0 w0 I0 (unrollW f n) (.loop c) := by
  have key : ∀ n (T : List AV) (S : St) (K : WK) (E : Env) (a : Act) (w : World) (Q : Exit → Act → World → Prop), unrollW f n T S K → SR P G N0 w0 I0 S E w → TR E w T a.tmps →
      (∀ x T' S' E' w' a', K x T' S' → SR P G N0 w0 I0 S' E' w' → Env.Le E E' w w' → TR E' w' T' a'.tmps → a'.defers = a.defers → Q x.to a' w') → Code.rounds P c Q n a w := by
    intro n
    induction n with
    | zero => exact fun T S K E a w Q h hS hT hQ => h.elim
    | succ n ih =>
      intro T S K E a w Q h hS hT hQ
      refine hf T S _ E a w _ h hS hT fun x T2 S2 E2 w2 a2 hk m1 m2 m3 m4 => ?_
      cases x with
      | normal => exact ih T2 S2 K E2 a2 w2 Q hk m1 m3 fun x T3 S3 E3 w3 a3 l0 l1 l2 l3 l4 => hQ x T3 S3 E3 w3 a3 l0 l1 (m2.trans l2) l3 (l4.trans m4)
      | exit id => exact hQ _ _ _ E2 w2 a2 hk m1 m2 m3 m4
      | goto l => exact hQ _ _ _ E2 w2 a2 hk m1 m2 m3 m4
      | ret => exact hQ _ _ _ E2 w2 a2 hk m1 m2 m3 m4
  exact fun T S K E a w Q h hS hT hQ => wp_loop_rounds n (key n T S K E a w Q h hS hT hQ)
/-- at the head of a loop -/
def LoopKey (P : Program) (c : Code) (Q : Exit → Act → World → Prop) (a : Act) (w : World) : Prop :=
  ∀ b k cs, ∃ e a' w', Q e a' w' ∧ Arrives P (lone (b.at a (.code c :: .inLoop c :: k)) cs w) b k cs e a' w'
theorem key_wp {c : Code} {Q : Exit → Act → World → Prop} {a : Act} {w : World} (h : LoopKey P c Q a w) : (Code.loop c).wp P Q a w := fun b k cs => by
  obtain ⟨e, a', w', hq, harr⟩ := h b k cs
  exact ⟨e, a', w', hq, .of_steps (.one step_loop) harr⟩
theorem key_step {c : Code} {Q : Exit → Act → World → Prop} {a : Act} {w : World} (h : c.wp P (Exit.then (LoopKey P c Q) Q) a w) : LoopKey P c Q a w := fun b k cs => by
  obtain ⟨e, a₁, w₁, hq, harr⟩ := h b (.inLoop c :: k) cs
  cases e with
  | normal =>
    obtain ⟨e₂, a₂, w₂, hq₂, harr₂⟩ := hq b k cs
    exact ⟨e₂, a₂, w₂, hq₂, .of_steps (Steps.trans harr (.one step_inLoop)) harr₂⟩
  | exit id => exact ⟨_, a₁, w₁, hq, .pass (x := .inLoop c) rfl (fun _ _ => .inl (by simp)) harr⟩
  | goto l => exact ⟨_, a₁, w₁, hq, .pass (x := .inLoop c) rfl (fun _ _ => .inl (by simp)) harr⟩
  | ret => exact ⟨_, a₁, w₁, hq, .pass (x := .inLoop c) rfl (fun _ _ => .inl (by simp)) harr⟩
  | panic ch => exact ⟨_, a₁, w₁, hq, .pass (x := .inLoop c) rfl (fun _ _ => .inl (by simp)) harr⟩
  | outgrown => exact ⟨_, a₁, w₁, hq, .pass (x := .inLoop c) rfl (fun _ _ => .inl (by simp)) harr⟩
def KeyOk (P : Program) (G : Glob) (N0 : Nat) (w0 : World) (I0 : Nat → Nat → Prop) (f : WStep) (c : Code) : Prop :=
  ∀ (T : List AV) (S : St) (K : WK) (E : Env) (a : Act) (w : World) (Q : Exit → Act → World → Prop), f T S K → SR P G N0 w0 I0 S E w → TR E w T a.tmps →
    (∀ x T' S' E' w' a', K x T' S' → SR P G N0 w0 I0 S' E' w' → Env.Le E E' w w' → TR E' w' T' a'.tmps → a'.defers = a.defers → Q x.to a' w') → LoopKey P c Q a w
theorem annW_ok {an : Ann} {f : WStep} {c : Code} (hf : WOk P G N0 w0 I0 f c) : KeyOk P G N0 w0 I0 (annW P idMk an f) c := by
  intro T S K E a w Q h hS hT hQ
  simp only [annW] at h
  split at h
  · obtain ⟨h0, hr⟩ := h
    obtain ⟨y, E2, l1, l2, l3, l4, _⟩ := landM_ok h0 hS rfl rfl hS (Env.Le.refl E w) hT
    have key : ∀ n, ∀ (a1 : Act) (w1 : World), (∃ y E', an.μ y = n ∧ an.I y ∧ SR P G N0 w0 I0 (an.sS y) E' w1 ∧ Env.Le E E' w w1 ∧ TR E' w1 (headT T.length an.slots (an.vals y)) a1.tmps ∧ a1.defers = a.defers) → LoopKey P c Q a1 w1 := by
      intro n
      induction n using Nat.strongRecOn with
      | _ n ih =>
        rintro a1 w1 ⟨y, E', hn, hI, hS', hL', hT', hd'⟩
        refine key_step (hf _ _ _ E' a1 w1 _ (forkT_imp (hr y hI)) hS' hT' fun x T2 S2 E2 w2 a2 hk m1 m2 m3 m4 => ?_)
        cases x with
        | normal =>
          obtain ⟨z, E3, q1, q2, q3, q4, q5⟩ := landW_ok hk hS rfl rfl m1 (hL'.trans m2) m3
          exact ih (an.μ z) (by omega) a2 w2 ⟨z, E3, rfl, q4, q1, q2, q3, m4.trans hd'⟩
        | exit id => exact hQ _ _ _ E2 w2 a2 hk m1 (hL'.trans m2) m3 (m4.trans hd')
        | goto l => exact hQ _ _ _ E2 w2 a2 hk m1 (hL'.trans m2) m3 (m4.trans hd')
        | ret => exact hQ _ _ _ E2 w2 a2 hk m1 (hL'.trans m2) m3 (m4.trans hd')
    exact key (an.μ y) a w ⟨y, E2, rfl, l4, l1, l2, l3, rfl⟩
  · rename_i r _
    obtain ⟨h0, hr⟩ := h
    obtain ⟨y, E2, l1, l2, l3, l4, l5⟩ := landM_ok h0 hS rfl rfl hS (Env.Le.refl E w) hT
    have key : ∀ n, ∀ (a1 : Act) (w1 : World), (∃ y E', an.μ y = n ∧ (an.I y ∧ r T y) ∧ SR P G N0 w0 I0 (an.sS y) E' w1 ∧ Env.Le E E' w w1 ∧ TR E' w1 (headT T.length an.slots (an.vals y)) a1.tmps ∧ a1.defers = a.defers) → LoopKey P c Q a1 w1 := by
      intro n
      induction n using Nat.strongRecOn with
      | _ n ih =>
        rintro a1 w1 ⟨y, E', hn, hI, hS', hL', hT', hd'⟩
        refine key_step (hf _ _ _ E' a1 w1 _ (forkT_imp (hr y hI.1 hI.2)) hS' hT' fun x T2 S2 E2 w2 a2 hk m1 m2 m3 m4 => ?_)
        cases x with
        | normal =>
          obtain ⟨z, E3, q1, q2, q3, q4, q5⟩ := landW_ok hk hS rfl rfl m1 (hL'.trans m2) m3
          exact ih (an.μ z) (by have := q5.2; omega) a2 w2 ⟨z, E3, rfl, ⟨q4, q5.1⟩, q1, q2, q3, m4.trans hd'⟩
        | exit id => exact hQ _ _ _ E2 w2 a2 hk m1 (hL'.trans m2) m3 (m4.trans hd')
        | goto l => exact hQ _ _ _ E2 w2 a2 hk m1 (hL'.trans m2) m3 (m4.trans hd')
        | ret => exact hQ _ _ _ E2 w2 a2 hk m1 (hL'.trans m2) m3 (m4.trans hd')
    exact key (an.μ y) a w ⟨y, E2, rfl, ⟨l4, l5⟩, l1, l2, l3, rfl⟩
theorem peelW_ok {f g : WStep} {c : Code} (hf : WOk P G N0 w0 I0 f c) (hg : KeyOk P G N0 w0 I0 g c) : ∀ n, KeyOk P G N0 w0 I0 (peelW f g n) c
  | 0 => hg
  | n + 1 => fun T S K E a w Q h hS hT hQ => by
    refine key_step (hf T S _ E a w _ h hS hT fun x T2 S2 E2 w2 a2 hk m1 m2 m3 m4 => ?_)
    cases x with
    | normal => exact peelW_ok hf hg n T2 S2 K E2 a2 w2 Q hk m1 m3 fun x T3 S3 E3 w3 a3 l0 l1 l2 l3 l4 => hQ x T3 S3 E3 w3 a3 l0 l1 (m2.trans l2) l3 (l4.trans m4)
    | exit id => exact hQ _ _ _ E2 w2 a2 hk m1 m2 m3 m4
    | goto l => exact hQ _ _ _ E2 w2 a2 hk m1 m2 m3 m4
    | ret => exact hQ _ _ _ E2 w2 a2 hk m1 m2 m3 m4
theorem loopW_ok {an : Option Ann} {f : WStep} {c : Code} (hf : WOk P G N0 w0 I0 f c) : WOk P G N0 w0 I0 (loopW P idMk an f) (.loop c) := by
  intro T S K E a w Q h hS hT hQ
  cases an with
  | none => exact h.elim
  | some an =>
    simp only [loopW] at h
    split at h
    case h_1 => exact unrollW_ok hf _ T S K E a w Q h hS hT hQ
    exact key_wp (peelW_ok hf (annW_ok hf) _ T S K E a w Q h hS hT hQ)

theorem cutW_ok {an : Option Ann} {f g : WStep} {c d : Code} (hf : WOk P G N0 w0 I0 f c) (hg : WOk P G N0 w0 I0 g d) : WOk P G N0 w0 I0 (cutW P idMk an f g) (.seq c d) := by
  intro T S K E a w Q h hS hT hQ
  unfold cutW at h
  split at h
  · exact seqW_ok hf hg T S K E a w Q h hS hT hQ
  · rename_i an
    obtain ⟨h0, hr⟩ := h
    refine wp_seq (hf T S _ E a w _ h0 hS hT fun e T' S' E' w' a' hk k1 k2 k3 k4 => ?_)
    cases e with
    | normal =>
      obtain ⟨z, E2, q1, q2, q3, q4, q5⟩ := landM_ok hk hS rfl rfl k1 k2 k3
      exact hg _ _ K E2 a' w' Q (forkT_imp (hr z q4 q5)) q1 q3 fun e T2 S2 E3 w2 a2 l0 l1 l2 l3 l4 => hQ e T2 S2 E3 w2 a2 l0 l1 (q2.trans l2) l3 (l4.trans k4)
    | exit id => exact hQ _ _ _ E' w' a' hk k1 k2 k3 k4
    | goto l => exact hQ _ _ _ E' w' a' hk k1 k2 k3 k4
    | ret => exact hQ _ _ _ E' w' a' hk k1 k2 k3 k4

/-- a scope: every jump lowers a number -/
theorem wp_scope_inv {b : Code} {Q : Exit → Act → World → Prop} {a : Act} {w : World} (J : Nat → Nat → Act → World → Prop)
    (h0 : b.wp P (fun e a' w' => match e with
      | .goto l => match findLabel b l with
        | some _ => ∃ m, J l m a' w'
        | none => Q (.goto l) a' w'
      | e => Q e a' w') a w)
    (hr : ∀ l m a w rest, findLabel b l = some rest → J l m a w → rest.wp P (fun e a' w' => match e with
      | .goto l => match findLabel b l with
        | some _ => ∃ m', m' < m ∧ J l m' a' w'
        | none => Q (.goto l) a' w'
      | e => Q e a' w') a w) : (Code.scope b).wp P Q a w := by
  intro fr k cs
  have key : ∀ (m : Nat) l a w rest, findLabel b l = some rest → J l m a w → ∃ e a' w', Q e a' w' ∧ Arrives P (lone (fr.at a (.code rest :: .inScope b :: k)) cs w) fr k cs e a' w' := by
    intro m
    induction m using Nat.strongRecOn with
    | _ m ih =>
      intro l a w rest hl hJ
      obtain ⟨e, a₁, w₁, hq, harr⟩ := hr l m a w rest hl hJ fr (.inScope b :: k) cs
      cases e with
      | normal => exact ⟨.normal, a₁, w₁, hq, Steps.trans harr (.one step_inScope)⟩
      | exit id => exact ⟨.exit id, a₁, w₁, hq, fun k' hk => harr k' (by simp [exitTo, hk])⟩
      | goto l' =>
        simp only at hq
        split at hq
        · rename_i rest' hr'
          obtain ⟨m', hlt, hJ'⟩ := hq
          obtain ⟨e₂, a₂, w₂, hq₂, harr₂⟩ := ih m' hlt l' a₁ w₁ rest' hr' hJ'
          exact ⟨e₂, a₂, w₂, hq₂, .of_steps (harr _ (by simp [gotoIn, hr'])) harr₂⟩
        · rename_i hr'
          exact ⟨.goto l', a₁, w₁, hq, fun k' hk => harr k' (by simp [gotoIn, hr', hk])⟩
      | ret => exact ⟨_, a₁, w₁, hq, harr⟩
      | panic ch => exact ⟨_, a₁, w₁, hq, harr⟩
      | outgrown => exact ⟨_, a₁, w₁, hq, harr⟩
  have fin : ∃ e a' w', Q e a' w' ∧ Arrives P (lone (fr.at a (.code b :: .inScope b :: k)) cs w) fr k cs e a' w' := by
    obtain ⟨e, a₁, w₁, hq, harr⟩ := h0 fr (.inScope b :: k) cs
    cases e with
    | normal => exact ⟨.normal, a₁, w₁, hq, Steps.trans harr (.one step_inScope)⟩
    | exit id => exact ⟨.exit id, a₁, w₁, hq, fun k' hk => harr k' (by simp [exitTo, hk])⟩
    | goto l' =>
      simp only at hq
      split at hq
      · rename_i rest' hr'
        obtain ⟨m', hJ'⟩ := hq
        obtain ⟨e₂, a₂, w₂, hq₂, harr₂⟩ := key m' l' a₁ w₁ rest' hr' hJ'
        exact ⟨e₂, a₂, w₂, hq₂, .of_steps (harr _ (by simp [gotoIn, hr'])) harr₂⟩
      · rename_i hr'
        exact ⟨.goto l', a₁, w₁, hq, fun k' hk => harr k' (by simp [gotoIn, hr', hk])⟩
    | ret => exact ⟨_, a₁, w₁, hq, harr⟩
    | panic ch => exact ⟨_, a₁, w₁, hq, harr⟩
    | outgrown => exact ⟨_, a₁, w₁, hq, harr⟩
  obtain ⟨e, a', w', hq, harr⟩ := fin
  exact ⟨e, a', w', hq, .of_steps (.one step_scope) harr⟩

theorem mem_labelsOf : ∀ {b : Code} {l : Nat} {rest : Code}, findLabel b l = some rest → l ∈ labelsOf b := by
  intro b
  induction b with
  | seq a b iha ihb =>
    intro l rest h
    simp only [findLabel] at h
    simp only [labelsOf, List.mem_append]
    cases ha : findLabel a l with
    | some r => exact .inl (iha ha)
    | none => rw [ha] at h; exact .inr (ihb h)
  | label l' =>
    intro l rest h
    simp only [findLabel] at h
    split at h
    · rename_i e; simp at e; simp [labelsOf, e]
    · cases h
  | _ => intro l rest h; simp [findLabel] at h

/-- what holds at a label that lies in code -/
def atL (P : Program) : Code → Nat → (Exit → Act → World → Prop) → Act → World → Prop
  | .seq x y, l, Q, a, w => match findLabel x l with
    | some _ => atL P x l (Exit.then (y.wp P Q) Q) a w
    | none => atL P y l Q a w
  | .label l', l, Q, a, w => if l' == l then Q .normal a w else True
  | _, _, _, _, _ => True

theorem exit_then_mono {K K' : Act → World → Prop} {Q Q' : Exit → Act → World → Prop} (hk : ∀ a w, K a w → K' a w) (h : ∀ e a w, Q e a w → Q' e a w) : ∀ e a w, Exit.then K Q e a w → Exit.then K' Q' e a w := by
  intro e a w hq
  cases e <;> first | exact hk _ _ hq | exact h _ _ _ hq

theorem atL_mono : ∀ {c : Code} {l : Nat} {Q Q' : Exit → Act → World → Prop} {a : Act} {w : World}, (∀ e a w, Q e a w → Q' e a w) → atL P c l Q a w → atL P c l Q' a w := by
  intro c
  induction c with
  | seq x y ihx ihy =>
    intro l Q Q' a w hq h
    simp only [atL] at h ⊢
    split
    · rename_i r hr
      rw [hr] at h
      exact ihx (exit_then_mono (fun _ _ h => wp_mono h hq) hq) h
    · rename_i hr
      rw [hr] at h
      exact ihy hq h
  | label l' =>
    intro l Q Q' a w hq h
    simp only [atL] at h ⊢
    split
    · rename_i e; rw [if_pos e] at h; exact hq _ _ _ h
    · trivial
  | _ => intros; simp only [atL]

theorem atL_rest : ∀ {c : Code} {l : Nat} {rest : Code} {Q : Exit → Act → World → Prop} {a : Act} {w : World}, findLabel c l = some rest → atL P c l Q a w → rest.wp P Q a w := by
  intro c
  induction c with
  | seq x y ihx ihy =>
    intro l rest Q a w hl h
    simp only [findLabel] at hl
    simp only [atL] at h
    split at hl
    · rename_i r hr
      simp only [Option.some.injEq] at hl
      subst hl
      rw [hr] at h
      exact wp_seq (ihx hr h)
    · rename_i hr
      rw [hr] at h
      exact ihy hl h
  | label l' =>
    intro l rest Q a w hl h
    simp only [findLabel] at hl
    simp only [atL] at h
    split at hl
    · rename_i e
      simp only [Option.some.injEq] at hl
      subst hl
      rw [if_pos e] at h
      exact wp_skip h
    · cases hl
  | _ => intro l rest Q a w hl; simp [findLabel] at hl

theorem atL_none : ∀ {c : Code} {l : Nat} {Q : Exit → Act → World → Prop} {a : Act} {w : World}, findLabel c l = none → atL P c l Q a w := by
  intro c
  induction c with
  | seq x y ihx ihy =>
    intro l Q a w hl
    simp only [findLabel] at hl
    simp only [atL]
    split at hl
    · cases hl
    · rename_i hr
      rw [hr]
      exact ihy hl
  | label l' =>
    intro l Q a w hl
    simp only [findLabel] at hl
    simp only [atL]
    split
    · rename_i e; rw [if_pos e] at hl; cases hl
    · trivial
  | _ => intros; simp only [atL]

theorem labelsOf_find : ∀ {b : Code} {l : Nat}, l ∈ labelsOf b → ∃ rest, findLabel b l = some rest := by
  intro b
  induction b with
  | seq a b iha ihb =>
    intro l h
    simp only [labelsOf, List.mem_append] at h
    simp only [findLabel]
    cases ha : findLabel a l with
    | some r => exact ⟨_, rfl⟩
    | none =>
      rcases h with h | h
      · obtain ⟨r, hr⟩ := iha h; rw [ha] at hr; cases hr
      · exact ihb h
  | label l' =>
    intro l h
    simp only [labelsOf, List.mem_singleton] at h
    exact ⟨.skip, by simp [findLabel, h]⟩
  | _ => intro l h; simp [labelsOf] at h

/-- what is shown of code whose labels may be come to from ahead -/
def WOkL (P : Program) (G : Glob) (N0 : Nat) (w0 : World) (I0 : Nat → Nat → Prop) (f : Ld → WStep) (c : Code) : Prop :=
  (labelsOf c).Nodup → ∀ (ld : Ld) (T : List AV) (S : St) (K : WK) (E : Env) (a : Act) (w : World) (Q : Exit → Act → World → Prop), f ld T S K → SR P G N0 w0 I0 S E w → TR E w T a.tmps →
    (∀ x T' S' E' w' a', K x T' S' → SR P G N0 w0 I0 S' E' w' → Env.Le E E' w w' → TR E' w' T' a'.tmps → a'.defers = a.defers → Q x.to a' w') →
    (∀ l p, ld l = some p → ∀ T' S' E' w' a', p T' S' → SR P G N0 w0 I0 S' E' w' → Env.Le E E' w w' → TR E' w' T' a'.tmps → a'.defers = a.defers → atL P c l Q a' w') → c.wp P Q a w
/-- and of what stands behind a label -/
def FOkL (P : Program) (G : Glob) (N0 : Nat) (w0 : World) (I0 : Nat → Nat → Prop) (k : Ld → Nat → Option WStep) (c : Code) : Prop :=
  (labelsOf c).Nodup → ∀ (ld : Ld) (l : Nat) (g : WStep), k ld l = some g → ∀ (T : List AV) (S : St) (K : WK) (E : Env) (a : Act) (w : World) (Q : Exit → Act → World → Prop), g T S K → SR P G N0 w0 I0 S E w → TR E w T a.tmps →
    (∀ x T' S' E' w' a', K x T' S' → SR P G N0 w0 I0 S' E' w' → Env.Le E E' w w' → TR E' w' T' a'.tmps → a'.defers = a.defers → Q x.to a' w') →
    (∀ l p, ld l = some p → ∀ T' S' E' w' a', p T' S' → SR P G N0 w0 I0 S' E' w' → Env.Le E E' w w' → TR E' w' T' a'.tmps → a'.defers = a.defers → atL P c l Q a' w') → atL P c l Q a w

theorem WOkL.of {f : Ld → WStep} {c : Code} (h : ∀ ld, WOk P G N0 w0 I0 (f ld) c) : WOkL P G N0 w0 I0 f c := fun _ ld T S K E a w Q hf hS hT hQ _ => h ld T S K E a w Q hf hS hT hQ
theorem WOkL.no {f : Ld → WStep} {c : Code} (h : WOkL P G N0 w0 I0 f c) (hn : (labelsOf c).Nodup) : WOk P G N0 w0 I0 (f noLd) c := fun T S K E a w Q hf hS hT hQ => h hn noLd T S K E a w Q hf hS hT hQ fun l p hl => by cases hl

theorem scopeW_ok {b : Code} {A : Nat → Option Ann} {k : Ld → Nat → Option WStep} (hk : FOkL P G N0 w0 I0 k b) {f : Ld → WStep} (hf : WOkL P G N0 w0 I0 f b) :
    WOk P G N0 w0 I0 (scopeW P idMk A (labelsOf b) f k) (.scope b) := by
  intro T S K E a w Q h hS hT hQ
  unfold scopeW at h
  split at h
  case isFalse => exact h.elim
  case isTrue hnd =>
  obtain ⟨h0, hr⟩ := h
  -- J l m: the label's state, its number m
  let J : Nat → Nat → Act → World → Prop := fun l m a' w' => ∃ an y E'', A l = some an ∧ an.μ y = m ∧ an.I y ∧ SR P G N0 w0 I0 (an.sS y) E'' w' ∧ Env.Le E E'' w w' ∧ TR E'' w' (headT T.length an.slots (an.vals y)) a'.tmps ∧ a'.defers = a.defers
  let QJ : (Nat → Prop) → Exit → Act → World → Prop := fun p e a' w' => match e with
      | .goto l => match findLabel b l with
        | some _ => ∃ m, p m ∧ J l m a' w'
        | none => Q (.goto l) a' w'
      | e => Q e a' w'
  have QJmono : ∀ {p q : Nat → Prop}, (∀ m, p m → q m) → ∀ e a' w', QJ p e a' w' → QJ q e a' w' := by
    intro p q hpq e a' w' hq
    cases e with
    | goto l =>
      simp only [QJ] at hq ⊢
      split at hq
      · obtain ⟨m, hm, hj⟩ := hq; exact ⟨m, hpq m hm, hj⟩
      · exact hq
    | _ => exact hq
  have land : ∀ {p : Nat → Prop} {an : Ann} {l : Nat} {T' : List AV} {S' : St} {E' : Env} {w' : World} {a' : Act}, A l = some an → landM P S.boxes.length S.live.length T.length an T' S' (fun y => p (an.μ y)) → SR P G N0 w0 I0 S' E' w' → Env.Le E E' w w' → TR E' w' T' a'.tmps → a'.defers = a.defers → ∃ m, p m ∧ J l m a' w' := by
    intro p an l T' S' E' w' a' hA hj k1 k2 k3 k4
    obtain ⟨y, E2, q1, q2, q3, q4, q5⟩ := landM_ok hj hS rfl rfl k1 k2 k3
    exact ⟨an.μ y, q5, an, y, E2, hA, rfl, q4, q1, q2, q3, k4⟩
  have post : ∀ {p : Nat → Prop} {x : AExit} {T' : List AV} {S' : St} {E' : Env} {w' : World} {a' : Act}, jumpK P S.boxes.length S.live.length T.length A (labelsOf b) p K x T' S' → SR P G N0 w0 I0 S' E' w' → Env.Le E E' w w' → TR E' w' T' a'.tmps → a'.defers = a.defers → QJ p x.to a' w' := by
    intro p x T' S' E' w' a' hj k1 k2 k3 k4
    cases x with
    | normal => exact hQ _ _ _ E' w' a' hj k1 k2 k3 k4
    | exit id => exact hQ _ _ _ E' w' a' hj k1 k2 k3 k4
    | ret => exact hQ _ _ _ E' w' a' hj k1 k2 k3 k4
    | goto l =>
      simp only [AExit.to, QJ]
      simp only [jumpK] at hj
      split at hj
      · rename_i hm
        obtain ⟨rest, hrest⟩ := labelsOf_find hm
        rw [hrest]
        split at hj
        · exact hj.elim
        · rename_i an hA
          exact land hA hj k1 k2 k3 k4
      · rename_i hm
        cases hfl : findLabel b l with
        | some r => exact absurd (mem_labelsOf hfl) hm
        | none => exact hQ _ _ _ E' w' a' hj k1 k2 k3 k4
  have key : ∀ (m : Nat) (l : Nat) (a1 : Act) (w1 : World), l ∈ labelsOf b → J l m a1 w1 → atL P b l (QJ (· < m)) a1 w1 := by
    intro m
    induction m using Nat.strongRecOn with
    | _ m ih =>
      rintro l a1 w1 hml ⟨an, y, E1, hA, hm, hI, hS1, hL1, hT1, hd1⟩
      have hml' := allL_mem hr l hml
      simp only [hA] at hml'
      have hml2 := forkT_imp (hml' y hI)
      split at hml2
      · rename_i g hg
        refine hk hnd _ l g hg _ _ _ E1 a1 w1 _ hml2 hS1 hT1 (fun x T' S' E' w' a' hj k1 k2 k3 k4 => ?_) (fun l2 p2 hp T' S' E' w' a' hj k1 k2 k3 k4 => ?_)
        · have := post hj k1 (hL1.trans k2) k3 (k4.trans hd1)
          exact QJmono (fun m' hm' => by omega) _ _ _ this
        · simp only [ldOf, Option.map_eq_some_iff] at hp
          obtain ⟨an2, hA2, rfl⟩ := hp
          by_cases hl2 : l2 ∈ labelsOf b
          · obtain ⟨m2, hlt, hJ2⟩ := land (p := fun m => m < an.μ y) hA2 hj k1 (hL1.trans k2) k3 (k4.trans hd1)
            exact atL_mono (QJmono fun m' hm' => by omega) (ih m2 (by omega) l2 a' w' hl2 hJ2)
          · refine atL_none ?_
            cases hfl : findLabel b l2 with
            | some r => exact absurd (mem_labelsOf hfl) hl2
            | none => rfl
      · exact hml2.elim
  refine wp_scope_inv J ?_ ?_
  · have : b.wp P (QJ fun _ => True) a w := by
      refine hf hnd _ T S _ E a w _ h0 hS hT (fun x T' S' E' w' a' hj k1 k2 k3 k4 => post hj k1 k2 k3 k4) (fun l2 p2 hp T' S' E' w' a' hj k1 k2 k3 k4 => ?_)
      simp only [ldOf, Option.map_eq_some_iff] at hp
      obtain ⟨an2, hA2, rfl⟩ := hp
      by_cases hl2 : l2 ∈ labelsOf b
      · obtain ⟨m2, _, hJ2⟩ := land (p := fun _ => True) hA2 hj k1 k2 k3 k4
        exact atL_mono (QJmono fun m' _ => trivial) (key m2 l2 a' w' hl2 hJ2)
      · refine atL_none ?_
        cases hfl : findLabel b l2 with
        | some r => exact absurd (mem_labelsOf hfl) hl2
        | none => rfl
    refine wp_mono this fun e a' w' hq => ?_
    cases e with
    | goto l =>
      simp only [QJ] at hq
      split at hq
      · rename_i r hr'
        obtain ⟨m, _, hj⟩ := hq
        simp only [hr']
        exact ⟨m, hj⟩
      · rename_i hr'
        simp only [hr']
        exact hq
    | _ => exact hq
  · intro l m a1 w1 rest hl hJ
    refine wp_mono (atL_rest hl (key m l a1 w1 (mem_labelsOf hl) hJ)) fun e a' w' hq => ?_
    cases e with
    | goto l' =>
      simp only [QJ] at hq
      split at hq
      · rename_i r hr'
        obtain ⟨m', hlt, hj⟩ := hq
        simp only [hr']
        exact ⟨m', hlt, hj⟩
      · rename_i hr'
        simp only [hr']
        exact hq
    | _ => exact hq

theorem skipW_ok (x : AExit) (c : Code) (h : ∀ (Q : Exit → Act → World → Prop) (a : Act) (w : World), Q x.to a w → c.wp P Q a w) : WOk P G N0 w0 I0 (fun T S K => K x T S) c := by
  intro T S K E a w Q hh hS hT hQ
  exact h Q a w (hQ x T S E w a hh hS (Env.Le.refl _ _) hT rfl)

theorem nodup_code {c : Code} (h : ∀ x y, c ≠ .seq x y) (h2 : ∀ l, c ≠ .label l) : (labelsOf c).Nodup := by
  cases c <;> first | exact List.nodup_nil | exact absurd rfl (h _ _) | exact absurd rfl (h2 _)

/-- every label of the inner code stands once, or a scope looks at it -/
theorem codeW_ok {X : Shapes} {R : Callee} {C : CCallee} (hm : P.follows .mixedOrders = true) (hR : CalleeOk P G R) (hC : ICalleeOk P G (lowC C)) (A : Anns) (m : List Bool) : ∀ (c : Code), WOkL P G N0 w0 I0 (codeW P idMk G X R C A m c) c ∧ FOkL P G N0 w0 I0 (fromW P idMk G X R C A m c) c ∧
    (∀ ld l, fromW P idMk G X R C A m c ld l = none ↔ findLabel c l = none) ∧ WOk P G N0 w0 I0 (codeW P idMk G X R C A m c noLd) c := by
  intro c
  induction c with
  | skip => exact ⟨.of fun ld => by rw [codeW]; exact skipW_ok .normal _ fun Q a w h => wp_skip h, (fun _ ld l g h => by simp [fromW] at h), (fun ld l => by simp [fromW, findLabel]), by rw [codeW]; exact skipW_ok .normal _ fun Q a w h => wp_skip h⟩
  | region id ops draw => exact ⟨.of fun ld => by rw [codeW]; exact regionW_ok hm hR hC, (fun _ ld l g h => by simp [fromW] at h), (fun ld l => by simp [fromW, findLabel]), by rw [codeW]; exact regionW_ok hm hR hC⟩
  | seq x y ihx ihy =>
    obtain ⟨hx1, hx2, hx3, hx4⟩ := ihx
    obtain ⟨hy1, hy2, hy3, hy4⟩ := ihy
    refine ⟨?_, ?_, ?_, ?_⟩
    · intro hnd ld T S K E a w Q h hS hT hQ hL
      simp only [labelsOf, List.nodup_append] at hnd
      rw [codeW] at h
      have hLx : ∀ l p, ld l = some p → ∀ T' S' E' w' a', p T' S' → SR P G N0 w0 I0 S' E' w' → Env.Le E E' w w' → TR E' w' T' a'.tmps → a'.defers = a.defers → atL P x l (Exit.then (y.wp P Q) Q) a' w' := by
        intro l p hp T' S' E' w' a' hj k1 k2 k3 k4
        have := hL l p hp T' S' E' w' a' hj k1 k2 k3 k4
        simp only [atL] at this
        split at this
        · exact this
        · rename_i hr; exact atL_none hr
      have hLy : ∀ l p, ld l = some p → ∀ T' S' E' w' a', p T' S' → SR P G N0 w0 I0 S' E' w' → Env.Le E E' w w' → TR E' w' T' a'.tmps → a'.defers = a.defers → atL P y l Q a' w' := by
        intro l p hp T' S' E' w' a' hj k1 k2 k3 k4
        have := hL l p hp T' S' E' w' a' hj k1 k2 k3 k4
        simp only [atL] at this
        split at this
        · rename_i r hr
          refine atL_none ?_
          cases hfl : findLabel y l with
          | some r2 => exact absurd rfl (hnd.2.2 l (mem_labelsOf hr) l (mem_labelsOf hfl))
          | none => rfl
        · exact this
      unfold cutW at h
      split at h
      case h_2 an _ =>
        obtain ⟨h0, hr⟩ := h
        refine wp_seq (hx1 hnd.1 ld T S _ E a w _ h0 hS hT (fun e T' S' E' w' a' hk k1 k2 k3 k4 => ?_) hLx)
        cases e with
        | normal =>
          obtain ⟨z, E2, q1, q2, q3, q4, q5⟩ := landM_ok hk hS rfl rfl k1 k2 k3
          exact hy1 hnd.2.1 ld _ _ K E2 a' w' Q (forkT_imp (hr z q4 q5)) q1 q3 (fun e T2 S2 E3 w2 a2 l0 l1 l2 l3 l4 => hQ e T2 S2 E3 w2 a2 l0 l1 (q2.trans l2) l3 (l4.trans k4)) (fun l p hp T2 S2 E3 w2 a2 l0 l1 l2 l3 l4 => hLy l p hp T2 S2 E3 w2 a2 l0 l1 (q2.trans l2) l3 (l4.trans k4))
        | exit id => exact hQ _ _ _ E' w' a' hk k1 k2 k3 k4
        | goto l => exact hQ _ _ _ E' w' a' hk k1 k2 k3 k4
        | ret => exact hQ _ _ _ E' w' a' hk k1 k2 k3 k4
      refine wp_seq (hx1 hnd.1 ld T S _ E a w _ h hS hT (fun e T' S' E' w' a' hk k1 k2 k3 k4 => ?_) (fun l p hp T' S' E' w' a' hj k1 k2 k3 k4 => ?_))
      · cases e with
        | normal =>
          refine hy1 hnd.2.1 ld T' S' K E' a' w' Q hk k1 k3 (fun e T2 S2 E2 w2 a2 l0 l1 l2 l3 l4 => hQ e T2 S2 E2 w2 a2 l0 l1 (k2.trans l2) l3 (l4.trans k4)) (fun l p hp T2 S2 E2 w2 a2 l0 l1 l2 l3 l4 => ?_)
          have := hL l p hp T2 S2 E2 w2 a2 l0 l1 (k2.trans l2) l3 (l4.trans k4)
          simp only [atL] at this
          split at this
          · rename_i r hr
            refine atL_none ?_
            cases hfl : findLabel y l with
            | some r2 => exact absurd rfl (hnd.2.2 l (mem_labelsOf hr) l (mem_labelsOf hfl))
            | none => rfl
          · exact this
        | exit id => exact hQ _ _ _ E' w' a' hk k1 k2 k3 k4
        | goto l => exact hQ _ _ _ E' w' a' hk k1 k2 k3 k4
        | ret => exact hQ _ _ _ E' w' a' hk k1 k2 k3 k4
      · have := hL l p hp T' S' E' w' a' hj k1 k2 k3 k4
        simp only [atL] at this
        split at this
        · exact this
        · rename_i hr; exact atL_none hr
    · intro hnd ld l g hg T S K E a w Q h hS hT hQ hL
      simp only [labelsOf, List.nodup_append] at hnd
      have hLx : ∀ l p, ld l = some p → ∀ T' S' E' w' a', p T' S' → SR P G N0 w0 I0 S' E' w' → Env.Le E E' w w' → TR E' w' T' a'.tmps → a'.defers = a.defers → atL P x l (Exit.then (y.wp P Q) Q) a' w' := by
        intro l p hp T' S' E' w' a' hj k1 k2 k3 k4
        have := hL l p hp T' S' E' w' a' hj k1 k2 k3 k4
        simp only [atL] at this
        split at this
        · exact this
        · rename_i hr; exact atL_none hr
      have hLy : ∀ l p, ld l = some p → ∀ T' S' E' w' a', p T' S' → SR P G N0 w0 I0 S' E' w' → Env.Le E E' w w' → TR E' w' T' a'.tmps → a'.defers = a.defers → atL P y l Q a' w' := by
        intro l p hp T' S' E' w' a' hj k1 k2 k3 k4
        have := hL l p hp T' S' E' w' a' hj k1 k2 k3 k4
        simp only [atL] at this
        split at this
        · rename_i r hr
          refine atL_none ?_
          cases hfl : findLabel y l with
          | some r2 => exact absurd rfl (hnd.2.2 l (mem_labelsOf hr) l (mem_labelsOf hfl))
          | none => rfl
        · exact this
      simp only [fromW] at hg
      simp only [atL]
      split at hg
      · rename_i gx hgx
        simp only [Option.some.injEq] at hg
        subst hg
        cases hfl : findLabel x l with
        | none => rw [(hx3 ld l).2 hfl] at hgx; cases hgx
        | some r =>
          simp only
          refine hx2 hnd.1 ld l gx hgx T S _ E a w _ h hS hT (fun e T' S' E' w' a' hk k1 k2 k3 k4 => ?_) hLx
          cases e with
          | normal => exact hy1 hnd.2.1 ld T' S' K E' a' w' Q hk k1 k3 (fun e T2 S2 E2 w2 a2 l0 l1 l2 l3 l4 => hQ e T2 S2 E2 w2 a2 l0 l1 (k2.trans l2) l3 (l4.trans k4)) (fun l p hp T2 S2 E2 w2 a2 l0 l1 l2 l3 l4 => hLy l p hp T2 S2 E2 w2 a2 l0 l1 (k2.trans l2) l3 (l4.trans k4))
          | exit id => exact hQ _ _ _ E' w' a' hk k1 k2 k3 k4
          | goto l => exact hQ _ _ _ E' w' a' hk k1 k2 k3 k4
          | ret => exact hQ _ _ _ E' w' a' hk k1 k2 k3 k4
      · rename_i hgx
        rw [(hx3 ld l).1 hgx]
        simp only
        exact hy2 hnd.2.1 ld l g hg T S K E a w Q h hS hT hQ hLy
    · intro ld l
      simp only [fromW, findLabel]
      cases hfl : findLabel x l with
      | none =>
        rw [(hx3 ld l).2 hfl]
        exact hy3 ld l
      | some r =>
        cases hgx : fromW P idMk G X R C A m x ld l with
        | none => rw [(hx3 ld l).1 hgx] at hfl; cases hfl
        | some g => simp
    · rw [codeW]; exact cutW_ok hx4 hy4
  | cond c x y ihx ihy =>
    have key : ∀ ld, WOk P G N0 w0 I0 (codeW P idMk G X R C A m (.cond c x y) ld) (.cond c x y) := by
      intro ld
      rw [codeW]
      intro T S K E a w Q h hS hT hQ
      have hc := evA_rep hS.glob hT c
      split at h
      · rename_i he
        rw [he] at hc
        exact wp_cond (rep_bool hc) (by simpa using ihx.2.2.2 _ _ _ E a w Q h hS hT hQ)
      · rename_i he
        rw [he] at hc
        exact wp_cond (rep_bool hc) (by simpa using ihy.2.2.2 _ _ _ E a w Q h hS hT hQ)
      · exact h.elim
    exact ⟨.of key, (fun _ ld l g h => by simp [fromW] at h), (fun ld l => by simp [fromW, findLabel]), key _⟩
  | block id b ih =>
    have key : ∀ ld, WOk P G N0 w0 I0 (codeW P idMk G X R C A m (.block id b) ld) (.block id b) := fun ld => by rw [codeW]; exact blockW_ok ih.2.2.2
    exact ⟨.of key, (fun _ ld l g h => by simp [fromW] at h), (fun ld l => by simp [fromW, findLabel]), key _⟩
  | loop b ih =>
    have key : ∀ ld, WOk P G N0 w0 I0 (codeW P idMk G X R C A m (.loop b) ld) (.loop b) := fun ld => by rw [codeW]; exact loopW_ok ih.2.2.2
    exact ⟨.of key, (fun _ ld l g h => by simp [fromW] at h), (fun ld l => by simp [fromW, findLabel]), key _⟩
  | rangeFunc f ps as b _ _ =>
    have key : ∀ ld, WOk P G N0 w0 I0 (codeW P idMk G X R C A m (.rangeFunc f ps as b) ld) (.rangeFunc f ps as b) := fun ld => by rw [codeW]; intro T S K E a w Q h; exact h.elim
    exact ⟨.of key, (fun _ ld l g h => by simp [fromW] at h), (fun ld l => by simp [fromW, findLabel]), key _⟩
  | exit id =>
    have key : ∀ ld, WOk P G N0 w0 I0 (codeW P idMk G X R C A m (.exit id) ld) (.exit id) := fun ld => by rw [codeW]; exact skipW_ok (.exit id) _ fun Q a w h => wp_exit h
    exact ⟨.of key, (fun _ ld l g h => by simp [fromW] at h), (fun ld l => by simp [fromW, findLabel]), key _⟩
  | scope b ih =>
    have key : ∀ ld, WOk P G N0 w0 I0 (codeW P idMk G X R C A m (.scope b) ld) (.scope b) := fun ld => by rw [codeW]; exact scopeW_ok ih.2.1 ih.1
    exact ⟨.of key, (fun _ ld l g h => by simp [fromW] at h), (fun ld l => by simp [fromW, findLabel]), key _⟩
  | label l' =>
    refine ⟨?_, ?_, fun ld l => ?_, by rw [codeW]; exact skipW_ok .normal _ fun Q a w h => wp_label h⟩
    · intro _ ld T S K E a w Q h hS hT hQ hL
      rw [codeW] at h
      split at h
      · rename_i p hp
        have := hL l' p hp T S E w a h hS (Env.Le.refl _ _) hT rfl
        simp only [atL, beq_self_eq_true, if_true] at this
        exact wp_label this
      · exact wp_label (hQ .normal T S E w a h hS (Env.Le.refl _ _) hT rfl)
    · intro _ ld l g hg T S K E a w Q h hS hT hQ hL
      simp only [fromW] at hg
      split at hg
      · rename_i he
        simp only [Option.some.injEq] at hg
        subst hg
        simp only [atL, he, if_true]
        exact hQ .normal T S E w a h hS (Env.Le.refl _ _) hT rfl
      · cases hg
    · simp only [fromW, findLabel]
      split <;> simp
  | goto l' =>
    have key : ∀ ld, WOk P G N0 w0 I0 (codeW P idMk G X R C A m (.goto l') ld) (.goto l') := fun ld => by rw [codeW]; exact skipW_ok (.goto l') _ fun Q a w h => wp_goto h
    exact ⟨.of key, (fun _ ld l g h => by simp [fromW] at h), (fun ld l => by simp [fromW, findLabel]), key _⟩
  | ret =>
    have key : ∀ ld, WOk P G N0 w0 I0 (codeW P idMk G X R C A m .ret ld) .ret := fun ld => by rw [codeW]; exact skipW_ok .ret _ fun Q a w h => wp_ret h
    exact ⟨.of key, (fun _ ld l g h => by simp [fromW] at h), (fun ld l => by simp [fromW, findLabel]), key _⟩
  | refuse s =>
    have key : ∀ ld, WOk P G N0 w0 I0 (codeW P idMk G X R C A m (.refuse s) ld) (.refuse s) := fun ld => by rw [codeW]; intro T S K E a w Q h; exact h.elim
    exact ⟨.of key, (fun _ ld l g h => by simp [fromW] at h), (fun ld l => by simp [fromW, findLabel]), key _⟩
end
end Go.Abs

namespace Go.Abs
open Go.RowKit

def fnW (P : Program) (mk : Mk) (G : Glob) (X : Shapes) (R : Callee) (C : CCallee) (A : Anns) (m : List Bool) (f : FuncId) (args : List AV) (S : St) (K : AV → St → Prop) : Prop :=
  match P.funcs[f]? with
  | none => False
  | some fn =>
    match fn.body with
    | none => False
    | some c =>
      if fn.name == "runtime.NumGoroutine" then False else
      codeW P mk G X R C A m c noLd (args ++ List.replicate (fn.ntmps - args.length) (.tup [])) S fun x T S' =>
        match x with
        | .normal | .ret => someK (resultsA P T S' fn.results.toList) fun vs => K (packA vs) S'
        | _ => False

def normW (live : List (Nat × TypeId)) (r0 : AV) (K : AV → List (Nat × TypeId) → Prop) : Prop :=
  match r0 with
  | .sl sz es (.tok t) => someK live[t]? fun p => p.1 = es.length ∧ K (.sl sz es (.tok 0)) [p]
  | .tup (.sl sz es (.tok t) :: vs) =>
    if (vs.map AV.strip1).all AV.closed1 then someK live[t]? fun p => p.1 = es.length ∧ K (.tup (.sl sz es (.tok 0) :: vs.map AV.strip1)) [p] else False
  | r0 => someK (normA live r0) fun x => K x.1 x.2
theorem normW_imp {live : List (Nat × TypeId)} {r0 : AV} {K : AV → List (Nat × TypeId) → Prop} (h : normW live r0 K) : ∃ r lv, normA live r0 = some (r, lv) ∧ K r lv := by
  unfold normW at h
  split at h
  · obtain ⟨p, h1, h2, h3⟩ := someK_imp h
    obtain ⟨n, e⟩ := p
    exact ⟨_, _, by simp only [normA, h1]; rw [if_pos h2], h3⟩
  · split at h
    · rename_i hc
      obtain ⟨p, h1, h2, h3⟩ := someK_imp h
      obtain ⟨n, e⟩ := p
      exact ⟨_, _, by simp only [normA, h1]; rw [if_pos hc, if_pos h2], h3⟩
    · exact h.elim
  · obtain ⟨x, h1, h2⟩ := someK_imp h
    exact ⟨x.1, x.2, h1, h2⟩

section
variable {P : Program} {G : Glob}

theorem fnW_ok {X : Shapes} {R : Callee} {C : CCallee} (hm : P.follows .mixedOrders = true) (hR : CalleeOk P G R) (hC : ICalleeOk P G (lowC C)) {A : Anns} {m : List Bool} {f : FuncId} {args : List AV} {S : St} {K : AV → St → Prop} (h : fnW P idMk G X R C A m f args S K) :
    goodFn P f ∧ ∀ (N0 : Nat) (w0 : World) (I0 : Nat → Nat → Prop) (E : Env) (w : World) (vs : Array Value), SR P G N0 w0 I0 S E w → vs.size = args.length → (∀ (i : Nat) (c : AV) (v : Value), args[i]? = some c → vs[i]? = some v → Rep E w c v) →
      Calls P f vs w fun e w' => ∃ v E' r S', e = .returned v ∧ K r S' ∧ SR P G N0 w0 I0 S' E' w' ∧ Env.Le E E' w w' ∧ Rep E' w' r v := by
  unfold fnW at h
  split at h
  · exact h.elim
  · rename_i fn hf
    split at h
    · exact h.elim
    · rename_i c hb
      split at h
      · exact h.elim
      · rename_i hname
        refine ⟨⟨fn, hf, by rw [hb]; rfl, by simpa using hname⟩, fun N0 w0 I0 E w vs hS hn hv => ?_⟩
        have hT0 : TR E w (args ++ List.replicate (fn.ntmps - args.length) (.tup [])) (vs ++ Array.replicate (fn.ntmps - vs.size) undef) := by
          refine ⟨by simp [hn], fun i c v hi hv' => ?_⟩
          by_cases hlt : i < args.length
          · rw [List.getElem?_append_left hlt] at hi
            rw [Array.getElem?_append_left (by omega)] at hv'
            exact hv i c v hi hv'
          · rw [List.getElem?_append_right (by omega), List.getElem?_replicate] at hi
            rw [Array.getElem?_append_right (by omega), Array.getElem?_replicate] at hv'
            split at hi
            · split at hv'
              · simp at hi hv'; subst hi; subst hv'
                exact rep_undef
              · cases hv'
            · cases hi
        refine calls_of_wp hf hb ((codeW_ok (N0 := N0) (w0 := w0) (I0 := I0) hm hR hC A m c).2.2.2 _ _ _ E _ w _ h hS hT0 fun x T S1 E' w' a' hk h1 h2 h3 h4 => ?_)
        cases x with
        | exit id => exact hk.elim
        | goto l => exact hk.elim
        | normal =>
          obtain ⟨us, hus, hK⟩ := someK_imp hk
          obtain ⟨v, hv, hrep⟩ := results_run h1 h3 hus
          exact ⟨h4, v, hv, v, E', _, _, rfl, hK, h1, h2, hrep⟩
        | ret =>
          obtain ⟨us, hus, hK⟩ := someK_imp hk
          obtain ⟨v, hv, hrep⟩ := results_run h1 h3 hus
          exact ⟨h4, v, hv, v, E', _, _, rfl, hK, h1, h2, hrep⟩

/-- what is known of a function's calls -/
abbrev Spec := List AV → Option (AV × List (Nat × TypeId))
abbrev ISpec := List AV → St → Option (Prop × AV × St)
def tbl : List (FuncId × Spec) → Callee
  | [], _, _ => none
  | (g, s) :: l, f, args => if f = g then s args else tbl l f args
def itbl : List (FuncId × ISpec) → CCallee
  | [], _, _, _ => none
  | (g, s) :: l, f, args, S => if f = g then s args S else itbl l f args S

def SpecOk (P : Program) (G : Glob) (f : FuncId) (s : Spec) : Prop := CalleeOk P G fun g args => if g = f then s args else none
def ISpecOk (P : Program) (G : Glob) (f : FuncId) (s : ISpec) : Prop := ICalleeOk P G (lowC fun g args S => if g = f then s args S else none)

theorem tbl_nil : CalleeOk P G (tbl []) := fun _ _ _ _ h => by simp [tbl] at h
theorem tbl_cons {f : FuncId} {s : Spec} {l : List (FuncId × Spec)} (h : SpecOk P G f s) (hl : CalleeOk P G (tbl l)) : CalleeOk P G (tbl ((f, s) :: l)) := by
  intro g args r lv hr
  simp only [tbl] at hr
  split at hr
  · rename_i e
    exact h g args r lv (by simp only [e, if_true]; exact hr)
  · exact hl g args r lv hr
theorem itbl_nil : ICalleeOk P G (lowC (itbl [])) := fun _ _ _ _ _ h => by simp [itbl, lowC] at h
theorem itbl_cons {f : FuncId} {s : ISpec} {l : List (FuncId × ISpec)} (h : ISpecOk P G f s) (hl : ICalleeOk P G (lowC (itbl l))) : ICalleeOk P G (lowC (itbl ((f, s) :: l))) := by
  intro g args S r S' hr
  simp only [lowC, itbl] at hr
  by_cases e : g = f
  · exact h g args S r S' (by simp only [lowC, e, if_true] at hr ⊢; exact hr)
  · exact hl g args S r S' (by simp only [lowC, if_neg e] at hr ⊢; exact hr)

/-- what comes back -/
structure RetIs (r : AV) (lv : List (Nat × TypeId)) (s : AV × List (Nat × TypeId)) : Prop where
  eq : (r, lv) = s
structure RetOpen (ok : Bool) (r : AV) (S : St) (s : AV × St) : Prop where
  ok : ok = true
  eq : (r, S) = s

/-- what is to be shown of a function -/
def pureW (P : Program) (G : Glob) (X : Shapes) (R : Callee) (C : CCallee) (A : Anns) (m : List Bool) (f : FuncId) (args : List AV) (r : AV × List (Nat × TypeId)) : Prop :=
  fnW P idMk G X R C A m f args ⟨[], []⟩ fun r0 S => normW S.live r0 fun r' lv => RetIs r' lv r

structure PureOk (P : Program) (G : Glob) (X : Shapes) (R : Callee) (C : CCallee) (A : Anns) (m : List Bool) (f : FuncId) (args : List AV) (r : AV × List (Nat × TypeId)) : Prop where
  out : pureW P G X R C A m f args r

theorem spec_of {X : Shapes} {R : Callee} {C : CCallee} (hm : P.follows .mixedOrders = true) (hR : CalleeOk P G R) (hC : ICalleeOk P G (lowC C)) {m : List Bool} {f : FuncId} {s : Spec}
    (h : ∀ args r, s args = some r → ∃ A, PureOk P G X R C A m f args r) : SpecOk P G f s := by
  intro g args r lv hr
  simp only at hr
  split at hr
  · rename_i e
    subst e
    obtain ⟨A, hA⟩ := h args _ hr
    obtain ⟨hg, hcall⟩ := fnW_ok hm hR hC hA.out
    refine fun E w vs hI hG hn hv hcl => .inl ⟨hg, ?_⟩
    have hS0 : SR P G w.heap.size w E.I ⟨[], []⟩ ⟨E.I, fun _ => none, fun _ _ _ => False⟩ w :=
      ⟨Below.refl _ _, Nat.le_refl _, hI, fun b o h _ => h, fun id b h => (nomatch h), fun id id' b h => (nomatch h), fun id cs h => (nomatch h), fun g e hg => ⟨(hG g e hg).1, rep_elt_rebase (hG g e hg).2.1 _ _, (hG g e hg).2.2⟩, fun id h => (nomatch h), fun t n v h => False.elim h, fun t n v h => False.elim h, fun t n e h => (nomatch h)⟩
    refine (hcall _ _ _ _ w vs hS0 hn fun i c v hi hv' => (hv i c v hi hv').rebase (hcl c (List.mem_of_getElem? hi)) _ _).mono fun e w' ⟨v, E', r0, S', he, hk, h1, h2, h3⟩ => ?_
    obtain ⟨r', lv', hnorm, ⟨he'⟩⟩ := normW_imp hk
    injection he' with h5 h6
    subst h5; subst h6
    exact ⟨v, he, normA_res (E0 := E) h1 (fun b o hi => (h2.I b o hi).1) hnorm h3⟩
  · cases hr

/-- less is told of a value: who may append to it -/
def all2 (p : AV → AV → Prop) : List AV → List AV → Prop
  | [], [] => True
  | a :: l, b :: m => p a b ∧ all2 p l m
  | _, _ => False
def Lax0 (a b : AV) : Prop :=
  match a, b with
  | .sl sz es _, .sl sz' es' o' => o' = .no ∧ es = es' ∧ (sz = sz' ∨ es' = [])
  | a, b => a = b
def Lax1 (a b : AV) : Prop :=
  match a, b with
  | .agg xs, .agg ys => all2 Lax0 xs ys
  | a, b => Lax0 a b
def Lax2 (a b : AV) : Prop :=
  match a, b with
  | .tup xs, .tup ys => all2 Lax1 xs ys
  | a, b => Lax1 a b
theorem all2_get {p : AV → AV → Prop} : ∀ {l m : List AV}, all2 p l m → l.length = m.length ∧ ∀ (i : Nat) (b : AV), m[i]? = some b → ∃ a, l[i]? = some a ∧ p a b
  | [], [], _ => ⟨rfl, fun i b h => by simp at h⟩
  | [], b :: m, h => h.elim
  | a :: l, [], h => h.elim
  | a :: l, b :: m, h => by
    obtain ⟨h1, h2⟩ := h
    obtain ⟨h3, h4⟩ := all2_get h2
    refine ⟨by simp [h3], fun i c hc => ?_⟩
    match i, hc with
    | 0, hc => simp at hc; subst hc; exact ⟨a, rfl, h1⟩
    | i + 1, hc => exact h4 i c (by simpa using hc)
theorem Lax0.rep {E : Env} {w : World} {a b : AV} {v : Value} (h : Lax0 a b) (hr : Rep E w a v) : Rep E w b v := by
  unfold Lax0 at h
  split at h
  · rename_i sz es o sz' es' o'
    obtain ⟨rfl, rfl, h3⟩ := h
    cases hr with | sl _ _ _ A cap u hcap hmax hA hsz hcl ho hr h1 =>
    by_cases he : es = []
    · subst he
      exact .sl sz' [] .no A cap u hcap hmax (.inl rfl) (by simp) (by simp) trivial (by simp) h1
    · obtain rfl := h3.resolve_right he
      exact .sl sz es .no A cap u hcap hmax hA hsz hcl trivial hr h1
  · subst h; exact hr
theorem Lax1.rep {E : Env} {w : World} {a b : AV} {v : Value} (h : Lax1 a b) (hr : Rep E w a v) : Rep E w b v := by
  unfold Lax1 at h
  split at h
  · rename_i xs ys
    obtain ⟨h1, h2⟩ := all2_get h
    cases hr with | agg _ vs hn h1' hc =>
    exact .agg _ vs (by omega) h1' fun i c v hi hv => by
      obtain ⟨a, ha, hl⟩ := h2 i c hi
      exact hl.rep (hc i a v ha hv)
  · exact Lax0.rep h hr
theorem Lax2.rep {E : Env} {w : World} {a b : AV} {v : Value} (h : Lax2 a b) (hr : Rep E w a v) : Rep E w b v := by
  unfold Lax2 at h
  split at h
  · rename_i xs ys
    obtain ⟨h1, h2⟩ := all2_get h
    cases hr with | tup _ vs hn hc =>
    exact .tup _ vs (by omega) fun i c v hi hv => by
      obtain ⟨a, ha, hl⟩ := h2 i c hi
      exact hl.rep (hc i a v ha hv)
  · exact Lax1.rep h hr
def AV.closed2 : AV → Bool
  | .tup vs => vs.all AV.closed1
  | v => v.closed1
theorem rep_closed2 {E : Env} {w : World} {a : AV} {v : Value} (hr : Rep E w a v) (hc : a.closed2 = true) (B : Nat → Option Nat) (K : Nat → Nat → Value → Prop) : Rep ⟨E.I, B, K⟩ w a v := by
  by_cases ha : ∃ vs, a = .tup vs
  · obtain ⟨vs, rfl⟩ := ha
    simp only [AV.closed2, List.all_eq_true] at hc
    cases hr with | tup _ us hn h =>
    exact .tup _ us hn fun i c v hi hv => (h i c v hi hv).rebase (hc c (List.mem_of_getElem? hi)) B K
  · have : a.closed1 = true := by
      cases a <;> simp_all [AV.closed2]
    exact hr.rebase this B K

structure RetLax (r : AV) (s : AV × List (Nat × TypeId)) : Prop where
  lax : Lax2 r s.1
  closed : s.1.closed2 = true
  none : s.2 = []
/-- what is to be shown of a function whose results are only looked at -/
def laxW (P : Program) (G : Glob) (X : Shapes) (R : Callee) (C : CCallee) (A : Anns) (m : List Bool) (f : FuncId) (args : List AV) (r : AV × List (Nat × TypeId)) : Prop :=
  fnW P idMk G X R C A m f args ⟨[], []⟩ fun r0 _ => RetLax r0 r
structure LaxOk (P : Program) (G : Glob) (X : Shapes) (R : Callee) (C : CCallee) (A : Anns) (m : List Bool) (f : FuncId) (args : List AV) (r : AV × List (Nat × TypeId)) : Prop where
  out : laxW P G X R C A m f args r

theorem lax_of {X : Shapes} {R : Callee} {C : CCallee} (hm : P.follows .mixedOrders = true) (hR : CalleeOk P G R) (hC : ICalleeOk P G (lowC C)) {m : List Bool} {f : FuncId} {s : Spec}
    (h : ∀ args r, s args = some r → ∃ A, LaxOk P G X R C A m f args r) : SpecOk P G f s := by
  intro g args r lv hr
  simp only at hr
  split at hr
  · rename_i e
    subst e
    obtain ⟨A, hA⟩ := h args _ hr
    obtain ⟨hg, hcall⟩ := fnW_ok hm hR hC hA.out
    refine fun E w vs hI hG hn hv hcl => .inl ⟨hg, ?_⟩
    have hS0 : SR P G w.heap.size w E.I ⟨[], []⟩ ⟨E.I, fun _ => none, fun _ _ _ => False⟩ w :=
      ⟨Below.refl _ _, Nat.le_refl _, hI, fun b o h _ => h, fun id b h => (nomatch h), fun id id' b h => (nomatch h), fun id cs h => (nomatch h), fun g e hg => ⟨(hG g e hg).1, rep_elt_rebase (hG g e hg).2.1 _ _, (hG g e hg).2.2⟩, fun id h => (nomatch h), fun t n v h => False.elim h, fun t n v h => False.elim h, fun t n e h => (nomatch h)⟩
    refine (hcall _ _ _ _ w vs hS0 hn fun i c v hi hv' => (hv i c v hi hv').rebase (hcl c (List.mem_of_getElem? hi)) _ _).mono fun e w' ⟨v, E', r0, S', he, hk, h1, h2, h3⟩ => ?_
    obtain ⟨k1, k2, k3⟩ := hk
    simp only at k1 k2 k3
    subst k3
    refine ⟨v, he, E'.I, fun b o hi => (h2.I b o hi).1, fun b o hi => ?_, h1.below, .inl ⟨rfl, fun B K => rep_closed2 (k1.rep h3) k2 B K⟩⟩
    rcases Nat.lt_or_ge b w.heap.size with hlt | hge
    · exact .inl (h1.Iold b o hi hlt)
    · exact .inr ⟨hge, h1.Ilt b o hi⟩
  · cases hr

/-- the same of a function that looks at its caller's variables -/
def openW (P : Program) (G : Glob) (X : Shapes) (R : Callee) (C : CCallee) (A : Anns) (m : List Bool) (f : FuncId) (args : List AV) (S : St) (r : AV × St) : Prop :=
  fnW P idMk G X R C A m f args S fun r0 S' => RetOpen (r0.p2 S.boxes.length && boxesOk S.boxes.length (S'.boxes.take S.boxes.length)) r0 { S' with boxes := S'.boxes.take S.boxes.length } r
structure OpenOk (P : Program) (G : Glob) (X : Shapes) (R : Callee) (C : CCallee) (A : Anns) (m : List Bool) (f : FuncId) (args : List AV) (S : St) (r : AV × St) : Prop where
  out : openW P G X R C A m f args S r
theorem ispec_of {X : Shapes} {R : Callee} {C : CCallee} (hm : P.follows .mixedOrders = true) (hR : CalleeOk P G R) (hC : ICalleeOk P G (lowC C)) {m : List Bool} {f : FuncId} {s : ISpec}
    (h : ∀ args S p r, s args S = some (p, r) → p → ∃ A, OpenOk P G X R C A m f args S r) : ISpecOk P G f s := by
  intro g args S r S' hr
  simp only [lowC] at hr
  by_cases e : g = f
  · subst e
    simp only [if_true] at hr
    split at hr
    case h_2 => cases hr
    case h_1 x hx =>
    split at hr
    case isFalse => cases hr
    case isTrue hp =>
    simp only [Option.some.injEq] at hr
    obtain ⟨A, hA⟩ := h args S x.1 x.2 hx hp
    rw [hr] at hA
    obtain ⟨hg, hcall⟩ := fnW_ok hm hR hC hA.out
    refine ⟨hg, fun N0 w0 I0 E w vs hS hn hv => (hcall N0 w0 I0 E w vs hS hn hv).mono fun e w' ⟨v, E', r0, S1, he, ⟨hok, hk⟩, h1, h2, h3⟩ => ?_⟩
    injection hk with h5 h6
    subst h5; subst h6
    simp only [Bool.and_eq_true] at hok
    refine ⟨v, ⟨E'.I, cutB S.boxes.length E'.B, E'.K⟩, he, h1.cut hok.2, ⟨h2.I, fun b x hb => ?_, h2.K⟩, h3.cut (pb2 hok.1)⟩
    have := (hS.Blt b x hb).1
    simp [cutB, this, h2.B b x hb]
  · simp only [if_neg e] at hr
    cases hr
end
end Go.Abs

namespace Go.Abs

theorem callIs_iff {x : Option (AV × List (Nat × TypeId))} {r : AV} {lv : List (Nat × TypeId)} : CallIs x r lv ↔ x = some (r, lv) := ⟨fun h => h.eq, fun h => ⟨h⟩⟩
theorem valsAre_iff {a b : List AV} : ValsAre a b ↔ a = b := ⟨fun h => h.eq, fun h => ⟨h⟩⟩
theorem stIs_iff {a b : St} : StIs a b ↔ a = b := ⟨fun h => h.eq, fun h => ⟨h⟩⟩
theorem retIs_iff {r : AV} {lv : List (Nat × TypeId)} {s : AV × List (Nat × TypeId)} : RetIs r lv s ↔ (r, lv) = s := ⟨fun h => h.eq, fun h => ⟨h⟩⟩

/-- bytes -/
abbrev bytesL (l : List UInt8) : List AV := l.map fun c => .int .u8 c.toNat
abbrev bytesA (l : List UInt8) : AV := .sl 1 (bytesL l) .no
theorem take_one {P : Program} {t : TypeId} (ha : aggA P t = some false) (hs : (sizeA P t).isSome = true) {es : List AV} {i : Nat} {e : AV} (he : es[i]? = some e) (h1 : e.cells = [e]) : takeAt P t es i 0 = some e := by
  obtain ⟨s, hs⟩ := Option.isSome_iff_exists.1 hs
  unfold takeAt
  simp only [he, ha, hs, takeA, h1, List.getElem?_cons_zero]
theorem take_none {P : Program} {t : TypeId} {es : List AV} {i j : Nat} (he : es[i]? = none) : takeAt P t es i j = none := by
  unfold takeAt
  simp only [he]
theorem take_u8_iff {P : Program} {t : TypeId} (ha : aggA P t = some false) (hs : (sizeA P t).isSome = true) {l : List UInt8} {i : Nat} {n : Int} : takeAt P t (bytesL l) i 0 = some (.int .u8 n) ↔ i < l.length ∧ ((l.getD i 0).toNat : Int) = n := by
  by_cases h : i < l.length
  · have he : (bytesL l)[i]? = some (.int .u8 l[i].toNat) := by simp [bytesL, h]
    rw [take_one ha hs he rfl]
    simp [h]
  · rw [take_none (by simpa [bytesL] using h)]
    simp [h]
theorem wrap64_in {n : Int} (h0 : -9223372036854775808 ≤ n) (h1 : n < 9223372036854775808) : IntKind.i64.wrap n = n := by
  simp only [IntKind.wrap, IntKind.bits, IntKind.signed]
  simp
  omega
theorem bytesL_length {l : List UInt8} : (bytesL l).length = l.length := by simp [bytesL]

/-- what is typed `true = b →` -/
theorem tt_imp {p : Prop} : (true = true → p) ↔ p := ⟨fun h => h rfl, fun h _ => h⟩
theorem tf_imp {p : Prop} : (true = false → p) ↔ True := ⟨fun _ => trivial, fun _ h => nomatch h⟩

theorem tw_next {p : UInt8 → Bool} : ∀ {l : List UInt8} {k : Nat}, k ≤ (l.takeWhile p).length → k < l.length → p (l.getD k 0) = true → k + 1 ≤ (l.takeWhile p).length
  | [], k, _, h, _ => by simp at h
  | c :: l, 0, _, _, hp => by simp at hp; simp [hp]
  | c :: l, k + 1, hk, h, hp => by
    rw [List.takeWhile_cons] at hk ⊢
    split at hk
    · rename_i hc
      rw [if_pos hc]
      simp only [List.length_cons] at hk h ⊢
      have := tw_next (p := p) (l := l) (k := k) (by omega) (by omega) (by simpa using hp)
      omega
    · simp at hk
theorem tw_stop {p : UInt8 → Bool} : ∀ {l : List UInt8} {k : Nat}, k ≤ (l.takeWhile p).length → (k < l.length → p (l.getD k 0) = false) → k = (l.takeWhile p).length
  | [], k, h, _ => by simp at h; simp [h]
  | c :: l, 0, _, hp => by have := hp (by simp); simp at this; simp [this]
  | c :: l, k + 1, hk, hp => by
    rw [List.takeWhile_cons] at hk ⊢
    split at hk
    · rename_i hc
      rw [if_pos hc]
      simp only [List.length_cons] at hk hp ⊢
      have := tw_stop (p := p) (l := l) (k := k) (by omega) (fun h => by simpa using hp (by omega))
      omega
    · simp at hk
end Go.Abs

namespace Go.Abs
open Go.RowKit

def unByte : AV → Option UInt8
  | .int .u8 n => if 0 ≤ n ∧ n < 256 then some (UInt8.ofNat n.toNat) else none
  | _ => none
def unBytes : List AV → Option (List UInt8)
  | [] => some []
  | a :: l =>
    match unByte a, unBytes l with
    | some b, some bs => some (b :: bs)
    | _, _ => none
theorem unByte_mk (b : UInt8) : unByte (.int .u8 b.toNat) = some b := by
  have h := b.toNat_lt
  simp only [unByte]
  rw [if_pos (by omega)]
  simp
theorem unByte_some {a : AV} {b : UInt8} (h : unByte a = some b) : a = .int .u8 b.toNat := by
  unfold unByte at h
  split at h
  · rename_i n
    split at h
    · rename_i hn
      simp only [Option.some.injEq] at h
      subst h
      have : (UInt8.ofNat n.toNat).toNat = n.toNat := by
        rw [UInt8.toNat_ofNat']
        exact Nat.mod_eq_of_lt (by omega)
      rw [this, Int.toNat_of_nonneg hn.1]
    · cases h
  · cases h
theorem unBytes_mk : ∀ bs : List UInt8, unBytes (bytesL bs) = some bs
  | [] => rfl
  | b :: bs => by
    have h1 := unByte_mk b
    have h2 := unBytes_mk bs
    simp only [bytesL, List.map_cons] at h2 ⊢
    simp only [unBytes, h1, h2]
theorem unBytes_some : ∀ {es : List AV} {bs : List UInt8}, unBytes es = some bs → es = bytesL bs
  | [], bs, h => by simp only [unBytes, Option.some.injEq] at h; subst h; rfl
  | a :: es, bs, h => by
    simp only [unBytes] at h
    split at h
    · rename_i b cs hb hcs
      simp only [Option.some.injEq] at h
      subst h
      rw [unByte_some hb, unBytes_some hcs]
      rfl
    · cases h

section
variable {P : Program} {G : Glob} {E : Env} {w w' : World}

theorem res_below (hb : Below w.heap.size w w') {r : AV} {v : Value} (h : ∀ B K, Rep ⟨E.I, B, K⟩ w' r v) : Res P E w w' r [] v :=
  ⟨E.I, fun _ _ h => h, fun _ _ h => .inl h, hb, .inl ⟨rfl, h⟩⟩
theorem res_same {r : AV} {v : Value} (h : ∀ B K, Rep ⟨E.I, B, K⟩ w r v) : Res P E w w r [] v := res_below (Below.refl _ _) h

theorem vs_one {vs : Array Value} (h : vs.size = 1) : ∃ a, vs = #[a] := by
  obtain ⟨l⟩ := vs
  match l, h with
  | [a], _ => exact ⟨a, rfl⟩
theorem vs_two {vs : Array Value} (h : vs.size = 2) : ∃ a b, vs = #[a, b] := by
  obtain ⟨l⟩ := vs
  match l, h with
  | [a, b], _ => exact ⟨a, b, rfl⟩

theorem rep_str {l : List UInt8} {v : Value} (h : Rep E w (.str l) v) : ∃ s, v = .string s ∧ s.data.toList = l := by
  cases h with | str _ s hs => exact ⟨s, rfl, hs⟩
theorem mk_str (s : ByteArray) : Rep E w (.str s.data.toList) (.string s) := .str _ s rfl

/-- a slice of bytes, in a world -/
theorem rep_bytes {sz : Nat} {bs : List UInt8} {o : Own} {v : Value} (h : Rep E w (.sl sz (bytesL bs) o) v) (hsz : sz = 1 ∨ bs = []) :
    ∃ A cap, v = .slice A bs.length cap ∧ bs.length ≤ cap ∧ (bs = [] ∨ ∃ b off, A = some ⟨b, off, none⟩ ∧ ∀ i, i < bs.length → w.cell? ⟨b, off + i, none⟩ = some (.int .u8 ((bs.map fun c => (c.toNat : Int)).getD i 0)) ∧ E.I b (off + i)) := by
  generalize hes : bytesL bs = es at h
  cases h with | sl _ _ _ A cap u hcap hmax hA hsz' hcl ho hr h1 =>
  have hlen : es.length = bs.length := by rw [← hes]; simp [bytesL]
  refine ⟨A, cap, by rw [hlen], by omega, ?_⟩
  by_cases hb : bs = []
  · exact .inl hb
  · have hsz1 : sz = 1 := hsz.resolve_right hb
    subst hsz1
    rcases hA with hA | ⟨b, off, hA, hc⟩
    · exact absurd (by rw [← hes] at hA; simpa [bytesL] using hA) hb
    · refine .inr ⟨b, off, hA, fun i hi => ?_⟩
      have he : es[i]? = some (.int .u8 bs[i].toNat) := by rw [← hes]; simp [bytesL, hi]
      obtain ⟨h2, h3⟩ := hc i _ 0 _ he rfl
      have h4 := hr i _ 0 _ he rfl
      simp only [Nat.mul_one, Nat.add_zero] at h2 h3
      refine ⟨?_, h2⟩
      rw [h3, rep_int h4]
      simp [hi]

def sIndexByteString : Spec := fun args => match args with
  | [.str l, .int .u8 c] => some (.int .i64 (Lib.indexByte l c.toNat.toUInt8), [])
  | _ => none
def sIndexByte : Spec := fun args => match args with
  | [.sl sz es _, .int .u8 c] => if sz = 1 ∧ es ≠ [] then (unBytes es).map fun l => (.int .i64 (Lib.indexByte l c.toNat.toUInt8), []) else none
  | _ => none
def sContains : Spec := fun args => match args with
  | [.str l, .str m] => if l.length < 4294967281 then some (.bool (Lib.contains l m), []) else none
  | _ => none

theorem extern_value {f : FuncId} {fn : Func} {e : Array Value → Sem Value} (hf : P.funcs[f]? = some fn) (hname : (fn.name == "runtime.NumGoroutine") = false) (hb : fn.body.isNone = true) (hn : Extern.findNext fn = none) (he : Extern.find fn = some e)
    {vs : Array Value} {w : World} {v : Value} (h : (e vs).run P w = .ok v w) : (callFunc f vs).run P w = .ok (.value v) w := by
  rw [run_callFunc_extern hf hname hb hn he, h]
  rfl

theorem o_indexByteString {f : FuncId} {fn : Func} (hf : P.funcs[f]? = some fn) (hname : (fn.name == "runtime.NumGoroutine") = false) (hb : fn.body.isNone = true) (hn : Extern.findNext fn = none) (he : Extern.find fn = some Extern.BytealgIndexByte.indexByte) :
    SpecOk P G f sIndexByteString := by
  intro g args r lv h E w vs hI hG hn' hv hcl
  simp only at h
  split at h
  · rename_i e
    subst e
    unfold sIndexByteString at h
    split at h
    · rename_i l c
      simp only [Option.some.injEq, Prod.mk.injEq] at h
      obtain ⟨rfl, rfl⟩ := h
      obtain ⟨a, b, rfl⟩ := vs_two hn'
      obtain ⟨s, rfl, hs⟩ := rep_str (hv 0 _ _ rfl rfl)
      obtain rfl := rep_int (hv 1 _ _ rfl rfl)
      refine .inr ⟨_, w, extern_value hf hname hb hn he (Lib.run_indexByteString s c w), _, rfl, res_same fun B K => ?_⟩
      rw [hs]
      exact .int _ _
    · cases h
  · cases h

theorem o_indexByte {f : FuncId} {fn : Func} (hf : P.funcs[f]? = some fn) (hname : (fn.name == "runtime.NumGoroutine") = false) (hb : fn.body.isNone = true) (hn : Extern.findNext fn = none) (he : Extern.find fn = some Extern.BytealgIndexByte.indexByte) :
    SpecOk P G f sIndexByte := by
  intro g args r lv h E w vs hI hG hn' hv hcl
  simp only at h
  split at h
  · rename_i e
    subst e
    unfold sIndexByte at h
    split at h
    · rename_i sz es o c
      split at h
      · rename_i hsz
        cases hu : unBytes es with
        | none => rw [hu] at h; cases h
        | some l =>
          rw [hu] at h
          simp only [Option.map_some, Option.some.injEq, Prod.mk.injEq] at h
          obtain ⟨rfl, rfl⟩ := h
          obtain rfl := unBytes_some hu
          obtain ⟨a, b, rfl⟩ := vs_two hn'
          obtain ⟨A, cap, rfl, hcap, hc⟩ := rep_bytes (hv 0 _ _ rfl rfl) (.inl hsz.1)
          obtain rfl := rep_int (hv 1 _ _ rfl rfl)
          have hbo : Lib.bytesOf (l.map fun c => (c.toNat : Int)) = l := by
            unfold Lib.bytesOf
            rw [List.map_map]
            conv => rhs; rw [← List.map_id l]
            refine List.map_congr_left fun x _ => ?_
            simp
          rcases hc with rfl | ⟨bk, off, rfl, hcells⟩
          · exact absurd rfl hsz.2
          · refine .inr ⟨_, w, extern_value hf hname hb hn he (Lib.run_indexByteSlice w bk off l.length cap (l.map fun c => (c.toNat : Int)) (by simp) (fun i hi => (hcells i hi).1) c), _, rfl, res_same fun B K => ?_⟩
            rw [hbo]
            exact .int _ _
      · cases h
    · cases h
  · cases h

theorem glob_int {g : Nat} {m : Int} (hG : GlobOk G E w) (h : G g = some (.int .i64 m)) : w.cell? ⟨g, 0, none⟩ = some (.int .i64 m) := by
  have := (hG g _ h).2.1
  generalize hv : Value.pointer (some ⟨g, 0, none⟩) = v at this
  cases this with | elt _ _ _ _ b off u hcl hA hr h1 =>
  injection hv with hv
  injection hv with hv
  injection hv with h2 h3
  subst h2
  obtain ⟨_, h4⟩ := hA 0 _ 0 _ rfl rfl
  have h5 := rep_int (hr 0 _ 0 _ rfl rfl)
  rw [← h5, ← h4]
  congr 2

theorem o_contains {f : FuncId} (hg : goodFn P f) {m : Int} {g0 : Nat} (hm : G g0 = some (.int .i64 m))
    (hc : ∀ (s sub : ByteArray) (m : Int) (w : World), s.size < 4294967281 → w.cell? ⟨g0, 0, none⟩ = some (.int .i64 m) →
      Calls P f #[.string s, .string sub] w fun e w' => e = .returned (.bool (Lib.contains s.data.toList sub.data.toList)) ∧ w' = w) : SpecOk P G f sContains := by
  intro g args r lv h E w vs hI hG hn' hv hcl
  simp only at h
  split at h
  · rename_i e
    subst e
    unfold sContains at h
    split at h
    · rename_i l k
      split at h
      · rename_i hl
        simp only [Option.some.injEq, Prod.mk.injEq] at h
        obtain ⟨rfl, rfl⟩ := h
        obtain ⟨a, b, rfl⟩ := vs_two hn'
        obtain ⟨s, rfl, hs⟩ := rep_str (hv 0 _ _ rfl rfl)
        obtain ⟨t, rfl, ht⟩ := rep_str (hv 1 _ _ rfl rfl)
        refine .inl ⟨hg, (hc s t m w (by have h9 : s.size = s.data.toList.length := by simp
                                         rw [h9, hs]; exact hl) (glob_int hG hm)).mono fun e w' ⟨he, hw⟩ => ?_⟩
        subst hw
        refine ⟨_, he, res_same fun B K => ?_⟩
        rw [hs, ht]
        exact .bool _
      · cases h
    · cases h
  · cases h

/-- a law that answers true -/
theorem law_calls {f : FuncId} {s : Spec} (hs : SpecOk P G f s) (hg : goodFn P f) {args : List AV} (h : s args = some (.bool true, [])) {vs : Array Value} (hI : ∀ b o, E.I b o → b < w.heap.size) (hG : GlobOk G E w) (hn : vs.size = args.length)
    (hv : ∀ (i : Nat) (c : AV) (v : Value), args[i]? = some c → vs[i]? = some v → Rep E w c v) (hcl : ∀ c ∈ args, c.closed1 = true) : Calls P f vs w fun e w' => e = .returned (.bool true) ∧ Below w.heap.size w w' := by
  have hc := hs f args (.bool true) [] (by simp only [if_true]; exact h) E w vs hI hG hn hv hcl
  rcases hc with ⟨_, hc⟩ | ⟨v, w', hrun, _⟩
  · refine hc.mono fun e w' ⟨v, he, I', _, _, hb, hr⟩ => ?_
    rcases hr with ⟨_, hr⟩ | ⟨n, e', hv', sz, xs, hlv, _⟩
    · have := rep_bool (hr (fun _ => none) (fun _ _ _ => False))
      subst this
      exact ⟨he, hb⟩
    · cases hlv
  · rw [run_callFunc hg] at hrun
    cases hrun
end
end Go.Abs
