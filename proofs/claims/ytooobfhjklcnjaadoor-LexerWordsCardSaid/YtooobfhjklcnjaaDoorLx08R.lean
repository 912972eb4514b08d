/- package variables of law08 -/
import Derived.Test.YtooobfhjklcnjaaDoorLx08Z
namespace Go.Abs
open Go.Proofs

def E8 : Env := ⟨fun b o => (b = 0 ∧ o = 0) ∨ (b = 1 ∧ o < 7), fun _ => none, fun _ _ _ => False⟩
theorem glob8 {W : World} {m : Int} (h0 : W.cell? ⟨0, 0, none⟩ = some (.int .i64 m)) (h1 : ∀ i, i < 7 → W.cell? ⟨1, i, none⟩ = some (.int .i64 (10 ^ i))) : GlobOk (G8 m) E8 W := by
  intro g e hg
  match g, hg with
  | 0, hg =>
    simp only [G8, Option.some.injEq] at hg
    subst hg
    refine ⟨rfl, ?_⟩
    have := Rep.elt (E := E8) (w := W) 1 [.int .i64 m] 0 0 0 0 (fun _ _ => .int .i64 m) (by simp [AV.closed1, AV.closed]) (fun i e j c hi hj => ?_) (fun i e j c hi hj => ?_) (fun _ _ => rfl)
    · exact this
    · match i, hi with
      | 0, hi =>
        simp at hi; subst hi
        match j, hj with
        | 0, _ => exact ⟨.inl ⟨rfl, rfl⟩, h0⟩
        | j + 1, hj => simp [AV.cells] at hj
      | i + 1, hi => simp at hi
    · match i, hi with
      | 0, hi =>
        simp at hi; subst hi
        match j, hj with
        | 0, hj => simp [AV.cells] at hj; subst hj; exact .int _ _
        | j + 1, hj => simp [AV.cells] at hj
      | i + 1, hi => simp at hi
  | 1, hg =>
    simp only [G8, Option.some.injEq] at hg
    subst hg
    refine ⟨rfl, ?_⟩
    have key : ∀ (j : Nat) (c : AV), tensA.cells[j]? = some c → j < 7 ∧ c = .int .i64 (10 ^ j) := fun j c hj => by
      have hlt : j < 7 := by
        have := (List.getElem?_eq_some_iff.1 hj).1
        exact this
      refine ⟨hlt, ?_⟩
      match j, hlt with
      | 0, _ | 1, _ | 2, _ | 3, _ | 4, _ | 5, _ | 6, _ => simp [tensA, AV.cells] at hj; subst hj; rfl
    have := Rep.elt (E := E8) (w := W) 7 [tensA] 0 0 1 0 (fun _ j => .int .i64 (10 ^ j)) (by intro e he; simp at he; subst he; rfl) (fun i e j c hi hj => ?_) (fun i e j c hi hj => ?_) (fun _ _ => rfl)
    · exact this
    · match i, hi with
      | 0, hi =>
        simp at hi; subst hi
        obtain ⟨h2, _⟩ := key j c hj
        refine ⟨.inr ⟨rfl, by omega⟩, ?_⟩
        have := h1 j h2
        simpa using this
      | i + 1, hi => simp at hi
    · match i, hi with
      | 0, hi =>
        simp at hi; subst hi
        obtain ⟨_, h3⟩ := key j c hj
        subst h3
        exact .int _ _
      | i + 1, hi => simp at hi
  | g + 2, hg => cases hg
end Go.Abs
