import Derived.Test.YthppcgafanognaaLawD
import Derived.Deep.RegionLaw
import Derived.Deep.RegionWith
import Derived.Deep.DeepCutAuto
namespace Go.Proofs.Ythppcgafanognaa
open Go.RowKit

theorem run_append_list {w : World} {base : Nat} {ty : TypeId} {v : Value} {n : Nat} {xs : List Value} (hown : w.ownsRow base 3 1 v n xs) {A : Option Addr} {l : List Int} {c : Nat} (ha : Arr w ienc 1 A l) (hn : n + l.length ≤ 1000000000000) (hb : base ≤ w.heap.size) :
    ∃ v' w', (Builtin.append_ #[31, 31] ty #[v, .slice A l.length c]).run Try.prog w = .ok v' w' ∧ w'.ownsRow base 3 1 v' (n + l.length) (xs ++ l.map (.int .i64)) ∧ w.grownBy w' v.ownBlock := by
  obtain ⟨i, hi, h1, h2, h3⟩ := info_parts int_info
  cases A with
  | some ad =>
    have hc : ∀ j u, (l.map (Value.int .i64))[j]? = some u → w.cell? (ad.add j) = some u := by
      intro j u hu
      obtain ⟨x, hx, rfl⟩ : ∃ x, l[j]? = some x ∧ Value.int .i64 x = u := by simpa using hu
      rcases ha with rfl | ⟨b, off, hA, hbb, hc⟩
      · simp at hx
      · have := hc j x hx 0 _ rfl
        obtain rfl : ad = ⟨b, off, none⟩ := by injection hA
        rw [add_plain]; simpa using this
    obtain ⟨v', w', a, b, c, _⟩ := run_append_own w base 31 ty 3 i (.int .i64 0) 1 8 Try.underlying31 hi h1 h2 h3 rfl (by decide) v n xs hown ad l.length c (l.map (.int .i64)) (by simp) hc (by intro u hu; obtain ⟨x, _, rfl⟩ := List.mem_map.1 hu; rfl) (by unfold maxLen; omega) (by omega) hb
    exact ⟨v', w', a, b, c⟩
  | none =>
    obtain rfl : l = [] := by rcases ha with h | ⟨b, off, hA, _⟩; exact h; cases hA
    refine ⟨v, w, ?_, by simpa using hown, ⟨rfl, rfl, rfl, Nat.le_refl _, fun _ _ _ => rfl⟩⟩
    rcases hown.2 with ⟨rfl, rfl⟩ | ⟨g, cap, cur, rfl, _, _, hnc, _⟩
    · simp [Builtin.append_, run_underlying Try.underlying31, sizeOf, typeInfo, hi, Builtin.lenOf, Builtin.firstCells]
    · simp [Builtin.append_, run_underlying Try.underlying31, sizeOf, typeInfo, hi, Builtin.lenOf, Builtin.firstCells, hnc, storeCells]

theorem step_append_list {ops : Array Oper} {o : Oper} {a : Act} {w : World} {K : Act → World → Prop} {Q : Exit → Act → World → Prop} {E : Prop}
    (hg : o.guard = none) (s x : Operand) (hop : o.op = Op.call { callee := Callee.builtin Builtin.append, args := #[s, x], argTypes := #[31, 31] })
    {base : Nat} {v : Value} {n : Nat} {xs : List Value} (hown : w.ownsRow base 3 1 v n xs) {A : Option Addr} {l : List Int} {m c : Nat} (hs : a.eval s = v) (hx : a.eval x = .slice A m c) (hm : m = l.length) (ha : Arr w ienc 1 A l) (hn : n + m ≤ 1000000000000) (hb : base ≤ w.heap.size)
    (hK : ∀ v' w', w'.ownsRow base 3 1 v' (n + m) (xs ++ l.map (.int .i64)) → w.grownBy w' v.ownBlock → K (a.put o.dst v') w') :
    if Region.wanted o (yielded ops a.tmps) = true then Oper.wp Try.prog o a w K Q else E := by
  have hw : Region.wanted o (yielded ops a.tmps) = true := by simp [Region.wanted, hg]
  rw [if_pos hw]
  subst hm
  obtain ⟨v', w', hrun, r1, r2⟩ := run_append_list (ty := o.type) (c := c) hown ha hn hb
  unfold Oper.wp
  simp [execOp, hop, resolve, invoke, builtin, hs, hx, hrun, Result.andThen]
  exact hK v' w' r1 r2
end Go.Proofs.Ythppcgafanognaa
