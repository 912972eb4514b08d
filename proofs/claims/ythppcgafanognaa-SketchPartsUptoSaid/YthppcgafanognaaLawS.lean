/-
  The walk over the law SketchParts; what an argument's capacity is worth.
-/
import Derived.Test.YthppcgafanognaaLawR
namespace Go.Proofs.Ythppcgafanognaa
open Go.RowKit Go.ChangeShapes Go.WideShapes Go.ChangeAt Go.Deep

theorem is_cap {H : Type} {enc : TypeId × Value → H} {W : World} {A : Option Addr} {n c : Nat} {d : DataW H} {ps : List MemPlace} (h : DataW.Trod enc Try.prog W 0 (fun _ => true) true 31 (.slice A n c) d ps) : n ≤ c := by
  obtain ⟨fuel, h⟩ := h
  rcases open_slice Try.underlying31 h with ⟨hcs, _⟩ | ⟨a', len', cap', m, n', D, Pl, hcs, hb, hl, hl2, hm, hx, hel⟩
  · simp [Value.cells] at hcs
    obtain ⟨rfl, rfl, rfl⟩ := hcs
    exact Nat.le_refl _
  · simp [Value.cells] at hcs
    obtain ⟨rfl, rfl, rfl⟩ := hcs
    omega

theorem sketchParts_walk (w : World) (A : Option Addr) (cA : Nat) (l : List Int) (ha : Arr w ienc 1 A l) (fa : ∀ n ∈ l, I64 n) (na : l.length ≤ 1048576) (cut : Int) (_ : I64 cut)
    (B : Option Addr) (cB : Nat) (s : Bks) (hb : Arr w benc 2 B s) (fb : WfB s) (nb : s.length ≤ 1048576) (hlc : l.length ≤ cA) :
    Calls Try.prog 10 #[.slice A l.length cA, .int .i64 cut, .slice B s.length cB] w fun e w' => e = .returned (.bool true) ∧ Below w.heap.size w w' := by
  have h1 := Int.tmod_lt_of_pos cut (show 0 < (l.length : Int) + 1 by omega)
  have h2 := Int.lt_tmod_of_pos cut (show 0 < (l.length : Int) + 1 by omega)
  obtain ⟨r, hr⟩ : ∃ r, cut.tmod (l.length + 1) = r := ⟨_, rfl⟩
  rw [hr] at h1 h2
  by_cases h0 : r < 0
  · exact parts_neg w A cA l ha fa hlc na cut r (r + l.length + 1).toNat hr h0 (by omega) (by omega) (by omega) B cB s hb fb nb
  · exact parts_pos w A cA l ha fa hlc na cut r r.toNat hr (by omega) (by omega) (by omega) B cB s hb fb nb
end Go.Proofs.Ythppcgafanognaa
