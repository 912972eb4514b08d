import Derived.Test.YthppcgafanognaaLawD
import Derived.Test.YthppcgafanognaaAppend
import Derived.Deep.RegionWith
import Derived.Deep.DeepCutAuto
namespace Go.Proofs.Ythppcgafanognaa
open Go.RowKit
theorem arr_take {w : World} {A : Option Addr} {l : List Int} (h : Arr w ienc 1 A l) (k : Nat) : Arr w ienc 1 A (l.take k) := by
  rcases h with rfl | ⟨b, off, hA, hb, hc⟩
  · left; simp
  · refine Or.inr ⟨b, off, hA, hb, fun j x hx => hc j x ?_⟩
    rw [List.getElem?_take] at hx
    split at hx
    · exact hx
    · cases hx
theorem arr_drop {w : World} {A : Option Addr} {l : List Int} {c k : Nat} (h : Arr w ienc 1 A l) (hc : l.length ≤ c) : Arr w ienc 1 (if c = k then A else A.map (fun x => x.add k)) (l.drop k) := by
  by_cases he : l.length ≤ k
  · left; exact List.drop_of_length_le he
  · rw [if_neg (by omega)]
    rcases h with rfl | ⟨b, off, rfl, hb, hc⟩
    · left; simp
    · refine Or.inr ⟨b, off + k, by rw [Option.map_some, add_plain], hb, fun j x hx m u hu => ?_⟩
      rw [List.getElem?_drop] at hx
      have := hc (k + j) x hx m u hu
      rw [show off + k + j * 1 + m = off + (k + j) * 1 + m by omega]; exact this
theorem own_drew {w : World} {base : Nat} {e : TypeId} {size : Nat} {v : Value} {n : Nat} {xs : List Value} (h : w.ownsRow base e size v n xs) : w.drew.ownsRow base e size v n xs := own_drewN h 1
theorem own_block {w : World} {base : Nat} {e : TypeId} {size : Nat} {v : Value} {n : Nat} {xs : List Value} (h : w.ownsRow base e size v n xs) : ∀ k, v.ownBlock = some k → base ≤ k := fun k hk => (h.lt k hk).1


/-- the buckets of some integers, each t times -/
def times (t : Int) (l : List Int) : Bks := l.map fun n => (idx n, t)
theorem times_snoc {t : Int} {l : List Int} {k : Nat} {n : Int} (h : l[k]? = some n) : times t (l.take (k + 1)) = times t (l.take k) ++ [(idx n, t)] := by
  rw [take_snoc h]; simp [times]
theorem totFrom_times (t : Int) (l : List Int) : ∀ (s k : Int), I64 s → totFrom s (times t l) k = wrap64 (s + t * cEq l k) := by
  induction l with
  | nil => intro s k h; simp [times, totFrom, cEq]; exact (w64 h.1 h.2).symm
  | cons n r ih =>
    intro s k h
    show totFrom (if idx n = k then wrap64 (s + t) else s) (times t r) k = _
    by_cases e : idx n = k
    · rw [if_pos e, ih _ _ (w64_range _), w64_w64]
      have : (cEq (n :: r) k : Int) = cEq r k + 1 := by simp [cEq, e]
      rw [this, Int.mul_add]; congr 1; omega
    · rw [if_neg e, ih _ _ h]
      simp [cEq, e]
theorem cEq_back (l : List Int) (c : Nat) (k : Int) : cEq (l.drop c ++ l.take c) k = cEq l k := by
  have : cEq (l.take c ++ l.drop c) k = cEq l k := by rw [List.take_append_drop]
  rw [← this]; simp only [cEq, List.countP_append]; omega
theorem all_back {l : List Int} {c : Nat} {m m' : Bks} (hl : l.length ≤ 1048576) (sm : Asc m) (fm : WfB m) (tm : ∀ k, tot m k = tot (ones l) k) (sm' : Asc m') (fm' : WfB m') (tm' : ∀ k, tot m' k = tot (ones (l.drop c ++ l.take c)) k) : m = m' := by
  refine asc_ext sm fm sm' fm' fun k => ?_
  rw [tm, tm', tot_ones _ _ (by omega), tot_ones _ _ (by simp; omega), cEq_back]
theorem all_parts {l : List Int} {c : Nat} {m a b p : Bks} (hl : l.length ≤ 1048576) (sm : Asc m) (fm : WfB m) (tm : ∀ k, tot m k = tot (ones l) k)
    (ta : ∀ k, tot a k = tot (ones (l.take c)) k) (sb : Asc b) (fb : WfB b) (tb : ∀ k, tot b k = tot (ones (l.drop c)) k)
    (sp : Asc p) (fp : WfB p) (tp : ∀ k, tot p k = tot (a ++ b) k) : m = p := by
  refine asc_ext sm fm sp fp fun k => ?_
  have h : cEq l k = cEq (l.take c) k + cEq (l.drop c) k := by
    have : cEq (l.take c ++ l.drop c) k = cEq l k := by rw [List.take_append_drop]
    rw [← this]; simp only [cEq, List.countP_append]
  have hle : cEq l k ≤ l.length := List.countP_le_length
  rw [tm, tp, tot_append sb fb, ta, tb, tot_ones _ _ (by omega), tot_ones _ _ (by simp; omega), tot_ones _ _ (by simp; omega), w64 (by omega) (by omega)]
  omega
theorem there_back {l : List Int} {c : Nat} {s t u : Bks} (ss : Asc s) (fs : WfB s) (st : Asc t) (ft : WfB t) (tu : ∀ k, tot u k = tot (s ++ times 3 l) k) (tt : ∀ k, tot t k = tot (u ++ times (-3) (l.drop c ++ l.take c)) k) : t = s := by
  refine asc_ext st ft ss fs fun k => ?_
  have r := tot_range s k
  have e : tot (u ++ times (-3) (l.drop c ++ l.take c)) k = totFrom (tot u k) (times (-3) (l.drop c ++ l.take c)) k := by rw [tot, totFrom_append]; rfl
  have e2 : tot (s ++ times 3 l) k = totFrom (tot s k) (times 3 l) k := by rw [tot, totFrom_append]; rfl
  rw [tt, e, totFrom_times _ _ _ _ (tot_range u k), tu, e2, totFrom_times _ _ _ _ r, w64_w64, cEq_back]
  rw [show tot s k + 3 * (cEq l k : Int) + -3 * cEq l k = tot s k by omega, w64 r.1 r.2]

end Go.Proofs.Ythppcgafanognaa
