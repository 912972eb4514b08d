/-
  Regions that draw their order: what an operation looks at.
-/
import Derived.Test.YtooobfhjklcnjaaDoorAbsM
namespace Go.Abs
open Go.RowKit

/-- a place: a variable, or what is known of the owners -/
abbrev Loc := Option Nat
def Agree (loc : Loc) (S S' : St) : Prop :=
  match loc with
  | none => S.live = S'.live
  | some id => S.boxes[id]? = S'.boxes[id]?

def boxOf : AV → List Loc
  | .ptr b _ => [some b]
  | _ => []

def touchA (ρ : Operand → AV) (bid : Nat) (eff : Bool) : Op → List Loc
  | .alloc _ | .box .. => [some bid]
  | .load _ a => boxOf (ρ a)
  | .store _ a _ => boxOf (ρ a)
  | .makeSlice .. => [none]
  | .call c =>
    match c.callee with
    | .builtin .append => [none]
    | .value _ => if eff then [none] else []
    | _ => []
  | _ => []

def writeA (ρ : Operand → AV) (bid : Nat) (eff : Bool) : Op → List Loc
  | .load .. => []
  | op => touchA ρ bid eff op

def effA (S S' : St) : Bool := S'.live.length != S.live.length

section
variable {P : Program}

theorem opA_congr {R : Callee} {C : ICallee} {ρ ρ' : Operand → AV} {bid : Nat} {S : St} {op : Op} (h : ∀ x ∈ op.operands, ρ x = ρ' x) : opA P R C ρ bid S op = opA P R C ρ' bid S op := by
  have pairs : ∀ ps : Array (Nat × Operand), (∀ x ∈ (ps.toList.map (·.2)).toArray, ρ x = ρ' x) → (ps.toList.map fun p => (p.1, ρ p.2)) = ps.toList.map fun p => (p.1, ρ' p.2) := fun ps hp =>
    List.map_congr_left fun p hm => by rw [hp p.2 (by simp; exact ⟨p.1, by simpa using hm⟩)]
  cases op <;> simp only [Op.operands] at h <;> simp only [opA]
  case build t ps => rw [pairs ps h]
  case buildSlice t n ps => rw [pairs ps h]
  case call c =>
    obtain ⟨callee, args, tys⟩ := c
    have ha : ∀ x ∈ args, ρ x = ρ' x := fun x hx => h x (by simp [Call.operands, hx])
    have hm : args.toList.map ρ = args.toList.map ρ' := List.map_congr_left fun x hx => ha x (by simpa using hx)
    cases callee with
    | builtin b =>
      cases b <;> simp only
      case len =>
        split
        · rename_i t x _ hx
          rw [ha x (by rw [← Array.mem_toList_iff, hx]; simp)]
        · rfl
      case max =>
        split
        · rename_i x y hx
          rw [ha x (by rw [← Array.mem_toList_iff, hx]; simp), ha y (by rw [← Array.mem_toList_iff, hx]; simp)]
        · rfl
      case min =>
        split
        · rename_i x y hx
          rw [ha x (by rw [← Array.mem_toList_iff, hx]; simp), ha y (by rw [← Array.mem_toList_iff, hx]; simp)]
        · rfl
      case append =>
        split
        · rename_i t tx x y _ hx
          rw [ha x (by rw [← Array.mem_toList_iff, hx]; simp), ha y (by rw [← Array.mem_toList_iff, hx]; simp)]
        · rfl
    | value f =>
      have hf : ρ f = ρ' f := h f (by simp [Call.operands])
      simp only [hf, hm]
    | invoke r m => rfl
  case makeFunc fn first captured =>
    have hm : captured.toList.map ρ = captured.toList.map ρ' := List.map_congr_left fun x hx => h x (by simp; exact .inr (by simpa using hx))
    rw [hm]
  case slice t x lo hi mx => cases lo <;> cases hi <;> cases mx <;> simp_all
  all_goals first | rfl | (simp_all; done)

theorem Agree.refl (loc : Loc) (S : St) : Agree loc S S := by cases loc <;> rfl

theorem appendA_local {S S1 S2 : St} {t tx : TypeId} {x y r : AV} (h : appendA P S t tx x y = some (r, S1)) (hl : S2.live = S.live) :
    ∃ l, S1 = { S with live := l } ∧ appendA P S2 t tx x y = some (r, { S2 with live := l }) := by
  obtain ⟨b, l⟩ := S
  obtain ⟨b2, l2⟩ := S2
  simp only at hl; subst hl
  unfold appendA at h ⊢
  split at h
  · rename_i e hu
    split at h
    · rename_i i sz es o hi
      split at h
      · rename_i hc
        split at h
        · rename_i ys hys
          split at h
          · rename_i hr
            simp only [hc, hr, and_self, if_true]
            split at h
            · rename_i hn
              simp only [Option.some.injEq, Prod.mk.injEq] at h
              obtain ⟨rfl, rfl⟩ := h
              exact ⟨l2, rfl, by simp [hn]⟩
            · rename_i hn
              simp only [hn, if_false]
              generalize o.weak = ow at h ⊢
              cases ow with
              | full =>
                simp only [Option.some.injEq, Prod.mk.injEq] at h
                obtain ⟨rfl, rfl⟩ := h
                exact ⟨_, rfl, rfl⟩
              | no => simp at h
              | nil => simp at h
              | tok k =>
                simp only at h ⊢
                split at h
                · rename_i n e' hk
                  split at h
                  · rename_i hc2
                    simp only [Option.some.injEq, Prod.mk.injEq] at h
                    obtain ⟨rfl, rfl⟩ := h
                    exact ⟨_, rfl, by simp only [hc2, and_self, if_true]⟩
                  · cases h
                · cases h
          · cases h
        · cases h
      · cases h
    · cases h
  · cases h

theorem makeSliceA_local {S S1 S2 : St} {t : TypeId} {x y r : AV} (h : makeSliceA P S t x y = some (r, S1)) (hl : S2.live = S.live) :
    ∃ l, S1 = { S with live := l } ∧ makeSliceA P S2 t x y = some (r, { S2 with live := l }) := by
  obtain ⟨b, l⟩ := S
  obtain ⟨b2, l2⟩ := S2
  simp only at hl; subst hl
  unfold makeSliceA at h ⊢
  split at h
  · rename_i e n m hu
    split at h
    · rename_i i hi
      split at h
      · rename_i z hz
        split at h
        · rename_i hc
          simp only [Option.some.injEq, Prod.mk.injEq] at h
          obtain ⟨rfl, rfl⟩ := h
          exact ⟨_, rfl, by rw [if_pos hc]⟩
        · cases h
      · cases h
    · cases h
  · cases h

theorem agree_live {S S2 : St} {l : List (Nat × TypeId)} (loc : Loc) : (loc ∈ [(none : Loc)] → Agree loc { S2 with live := l } { S with live := l }) ∧ (loc ∉ [(none : Loc)] → Agree loc { S2 with live := l } S2 ∧ Agree loc { S with live := l } S) := by
  constructor
  · intro h; simp at h; subst h; rfl
  · intro h
    cases loc with
    | none => simp at h
    | some id => exact ⟨rfl, rfl⟩

theorem opA_local {R : Callee} {ρ : Operand → AV} {bid : Nat} {S S1 S2 : St} {op : Op} {r : AV} (h : opA P R noC ρ bid S op = some (r, S1)) (ha : ∀ loc ∈ touchA ρ bid (effA S S1) op, Agree loc S2 S) :
    ∃ S3, opA P R noC ρ bid S2 op = some (r, S3) ∧ ∀ loc, (loc ∈ writeA ρ bid (effA S S1) op → Agree loc S3 S1) ∧ (loc ∉ writeA ρ bid (effA S S1) op → Agree loc S3 S2 ∧ Agree loc S1 S) := by
  have same : ∀ {x : Option AV}, x.map (·, S) = some (r, S1) → x.map (·, S2) = some (r, S2) ∧ S1 = S := by
    intro x hx
    cases x with
    | none => simp at hx
    | some y => simp at hx; obtain ⟨rfl, rfl⟩ := hx; exact ⟨rfl, rfl⟩
  have triv : S1 = S → writeA ρ bid (effA S S1) op = [] → ∀ loc, (loc ∈ writeA ρ bid (effA S S1) op → Agree loc S2 S1) ∧ (loc ∉ writeA ρ bid (effA S S1) op → Agree loc S2 S2 ∧ Agree loc S1 S) := by
    intro e hw loc
    subst e
    rw [hw]
    exact ⟨fun h => by simp at h, fun _ => ⟨Agree.refl _ _, Agree.refl _ _⟩⟩
  have nb : ∀ {cs : List AV}, newBox S bid cs = some (r, S1) → S2.boxes[bid]? = S.boxes[bid]? → ∃ S3, newBox S2 bid cs = some (r, S3) ∧ ∀ loc, (loc ∈ [(some bid : Loc)] → Agree loc S3 S1) ∧ (loc ∉ [(some bid : Loc)] → Agree loc S3 S2 ∧ Agree loc S1 S) := by
    intro cs hn he
    obtain ⟨hb, rfl, rfl⟩ := newBox_some hn
    rw [hb] at he
    refine ⟨_, by unfold newBox; rw [he], fun loc => ⟨fun hl => ?_, fun hl => ?_⟩⟩
    · simp at hl; subst hl
      have h1 : bid < S.boxes.length := (List.getElem?_eq_some_iff.1 hb).1
      have h2 : bid < S2.boxes.length := (List.getElem?_eq_some_iff.1 he).1
      simp [Agree, h1, h2]
    · cases loc with
      | none => exact ⟨rfl, rfl⟩
      | some id =>
        have hne : bid ≠ id := fun e => hl (by simp [e])
        simp [Agree, List.getElem?_set_ne hne]
  cases op <;> simp only [opA] at h ⊢
  case alloc t =>
    split at h
    · rename_i z hz
      split at h
      · rename_i hc
        simp only [hc, if_true]
        exact nb h (ha (some bid) (by simp [touchA]))
      · cases h
    · cases h
  case box t x =>
    split at h
    · rename_i hc
      simp only [hc, if_true]
      exact nb h (ha (some bid) (by simp [touchA]))
    · cases h
  case load t x =>
    have hl : loadA P S2 t (ρ x) = loadA P S t (ρ x) := by
      unfold loadA
      split
      · rename_i b o hx
        have := ha (some b) (by simp [touchA, hx, boxOf])
        simp only [Agree] at this
        rw [this]
      · rfl
      · rfl
    rw [hl]
    obtain ⟨h1, h2⟩ := same h
    exact ⟨S2, h1, triv h2 rfl⟩
  case store t x y =>
    cases hs : storeA P S t (ρ x) (ρ y) with
    | none => simp [hs] at h
    | some S1' =>
      simp [hs] at h
      obtain ⟨rfl, rfl⟩ := h
      unfold storeA at hs ⊢
      split at hs
      · rename_i b o hx
        have hag := ha (some b) (by simp [touchA, hx, boxOf])
        simp only [Agree] at hag
        simp only [hag]
        split at hs
        · rename_i cs hb
          split at hs
          · rename_i hc
            simp at hs; subst hs
            refine ⟨_, by simp only [hc, and_self, if_true]; rfl, fun loc => ?_⟩
            have h1 : b < S.boxes.length := (List.getElem?_eq_some_iff.1 hb).1
            have h2 : b < S2.boxes.length := by rw [hb] at hag; exact (List.getElem?_eq_some_iff.1 hag).1
            have hw : writeA ρ bid (effA S { boxes := S.boxes.set b (some (spliceA cs o (ρ y).cells)), live := S.live }) (.store t x y) = [some b] := by simp [writeA, touchA, hx, boxOf]
            rw [hw]
            constructor
            · intro hl; simp at hl; subst hl
              simp [Agree, h1, h2]
            · intro hl
              cases loc with
              | none => exact ⟨rfl, rfl⟩
              | some id =>
                have hne : b ≠ id := fun e => hl (by simp [e])
                simp [Agree, List.getElem?_set_ne hne]
          · cases hs
        · cases hs
      · cases hs
  case makeSlice t l c =>
    obtain ⟨l', rfl, h2⟩ := makeSliceA_local h (ha none (by simp [touchA]))
    exact ⟨_, h2, agree_live⟩
  case pick c x y =>
    split at h
    · simp at h
      obtain ⟨rfl, rfl⟩ := h
      exact ⟨S2, rfl, triv rfl rfl⟩
    · cases h
  case nilCheck x =>
    split at h
    · simp at h
      obtain ⟨rfl, rfl⟩ := h
      exact ⟨S2, rfl, triv rfl rfl⟩
    · simp at h
      obtain ⟨rfl, rfl⟩ := h
      exact ⟨S2, rfl, triv rfl rfl⟩
    · simp at h
      obtain ⟨rfl, rfl⟩ := h
      exact ⟨S2, rfl, triv rfl rfl⟩
    · cases h
  case makeFunc fn first captured =>
    split at h
    · simp at h
      obtain ⟨rfl, rfl⟩ := h
      exact ⟨S2, rfl, triv rfl rfl⟩
    · cases h
  case move x => simp at h; obtain ⟨rfl, rfl⟩ := h; exact ⟨S2, rfl, triv rfl rfl⟩
  case assign x => simp at h; obtain ⟨rfl, rfl⟩ := h; exact ⟨S2, rfl, triv rfl rfl⟩
  case extract t i =>
    split at h
    · obtain ⟨h1, h2⟩ := same h
      exact ⟨S2, h1, triv h2 rfl⟩
    · cases h
  case call c =>
    obtain ⟨callee, args, tys⟩ := c
    cases callee with
    | builtin b =>
      cases b <;> simp only at h ⊢ <;> first | (cases h; done) | skip
      case len =>
        split at h
        · obtain ⟨h1, h2⟩ := same h
          exact ⟨S2, h1, triv h2 rfl⟩
        · cases h
      case max =>
        split at h
        · obtain ⟨h1, h2⟩ := same h
          exact ⟨S2, h1, triv h2 rfl⟩
        · cases h
      case min =>
        split at h
        · obtain ⟨h1, h2⟩ := same h
          exact ⟨S2, h1, triv h2 rfl⟩
        · cases h
      case append =>
        split at h
        · obtain ⟨l', rfl, h2⟩ := appendA_local h (ha none (by simp [touchA]))
          exact ⟨_, h2, agree_live⟩
        · cases h
    | value f =>
      simp only at h ⊢
      split at h
      · unfold callG at h ⊢
        split at h
        case isFalse => simp [noC] at h
        rename_i hcg
        simp only [hcg, if_true]
        simp only [callA, hcg, if_true] at h ⊢
        split at h
        · rename_i r0 hr
          simp at h
          obtain ⟨rfl, rfl⟩ := h
          refine ⟨S2, rfl, triv rfl ?_⟩
          simp [writeA, touchA, effA]
        · rename_i r0 p lv hr
          simp at h
          obtain ⟨rfl, rfl⟩ := h
          have he : effA S { S with live := S.live ++ p :: lv } = true := by simp [effA]
          have hl : S2.live = S.live := ha none (by simp [touchA, he])
          refine ⟨{ S2 with live := S2.live ++ p :: lv }, by rw [hl], ?_⟩
          have hw : writeA ρ bid (effA S { S with live := S.live ++ p :: lv }) (.call ⟨.value f, args, tys⟩) = [none] := by simp [writeA, touchA, he]
          rw [hw, hl]
          exact agree_live
        · cases h
      · cases h
    | invoke r m => simp at h
  all_goals first
    | (cases h; done)
    | (obtain ⟨h1, h2⟩ := same h
       exact ⟨S2, h1, triv h2 rfl⟩)
end
end Go.Abs
