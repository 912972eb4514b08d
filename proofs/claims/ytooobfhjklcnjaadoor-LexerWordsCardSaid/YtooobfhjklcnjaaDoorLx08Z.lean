/- the law of the words -/
import Derived.Test.YtooobfhjklcnjaaDoorLx08Y
import Derived.Test.YtooobfhjklcnjaaDoorLx08K
import Derived.Test.YtooobfhjklcnjaaDoorLx08E
namespace Go.Abs
open Go.Proofs

theorem p49 (m n : Int) : PureOk PP (G8 m) X1 (tbl []) (itbl []) ⟨nA, nA⟩ [] 49 [.int .u8 n] (.bool (decide (97 ≤ n ∧ n ≤ 122)), []) := by
  constructor
  rw [w49]
  simp only [retIs_iff, Prod.mk.injEq, AV.bool.injEq, and_true, decide_eq_true_eq, decide_eq_false_iff_not]
  refine ⟨fun h1 => ⟨fun h2 => (decide_eq_true (by omega)).symm, fun h2 => (decide_eq_false (by omega)).symm⟩, fun h1 => (decide_eq_false (by omega)).symm⟩
theorem p44 (m n : Int) : PureOk PP (G8 m) X1 (tbl []) (itbl []) ⟨nA, nA⟩ [] 44 [.int .u8 n] (.bool (decide (48 ≤ n ∧ n ≤ 57)), []) := by
  constructor
  rw [w44]
  simp only [retIs_iff, Prod.mk.injEq, AV.bool.injEq, and_true, decide_eq_true_eq, decide_eq_false_iff_not]
  refine ⟨fun h1 => ⟨fun h2 => (decide_eq_true (by omega)).symm, fun h2 => (decide_eq_false (by omega)).symm⟩, fun h1 => (decide_eq_false (by omega)).symm⟩

theorem o49 (m : Int) : SpecOk PP (G8 m) 49 s49 := spec_of (X := X1) (m := []) mixed8 tbl_nil itbl_nil fun args r h => by
  unfold s49 at h
  split at h
  · injection h with h; subst h; exact ⟨⟨nA, nA⟩, p49 m _⟩
  · cases h
theorem o44 (m : Int) : SpecOk PP (G8 m) 44 s44 := spec_of (X := X1) (m := []) mixed8 tbl_nil itbl_nil fun args r h => by
  unfold s44 at h
  split at h
  · injection h with h; subst h; exact ⟨⟨nA, nA⟩, p44 m _⟩
  · cases h
theorem o33 (m : Int) : SpecOk PP (G8 m) 33 s33' := spec_of (X := X1) (m := []) mixed8 (tbl_cons (o49 m) (tbl_cons (o44 m) tbl_nil)) itbl_nil fun args r h => by
  unfold s33' at h
  split at h
  · rename_i sz es n
    split at h
    · rename_i hsz
      subst hsz
      split at h
      · rename_i bs hb
        obtain rfl := unBytes_some hb
        split at h
        · rename_i hc
          injection h with h
          subst h
          have := p33 m bs n.toNat hc.2.1 hc.2.2
          rw [Int.toNat_of_nonneg hc.1] at this
          exact ⟨a33 bs n.toNat, this⟩
        · cases h
      · cases h
    · cases h
  · cases h
theorem o17 (m : Int) : SpecOk PP (G8 m) 17 s17 := spec_of (X := XW) (m := []) mixed8 tbl_nil itbl_nil fun args r h => by
  unfold s17 at h
  split at h
  · injection h with h; subst h; exact ⟨nAn, p17 m _⟩
  · cases h
theorem o16 (m : Int) : SpecOk PP (G8 m) 16 s16 := spec_of (X := XW) (m := []) mixed8 (lib8_ok m) itbl_nil fun args r h => by
  unfold s16 at h
  split at h
  · split at h
    · rename_i hl
      injection h with h; subst h; exact ⟨nAn, p16 m _ hl⟩
    · cases h
  · cases h
theorem o18 (m : Int) : SpecOk PP (G8 m) 18 s18 := spec_of (X := XW) (m := []) mixed8 (tbl_cons (o16 m) tbl_nil) itbl_nil fun args r h => by
  unfold s18 at h
  split at h
  · split at h
    · rename_i hl
      injection h with h; subst h; exact ⟨a18 _, p18 m _ hl⟩
    · cases h
  · cases h
theorem o19 (m : Int) : SpecOk PP (G8 m) 19 s18 := spec_of (X := XW) (m := []) mixed8 (tbl_cons (o17 m) (tbl_cons (o33 m) tbl_nil)) itbl_nil fun args r h => by
  unfold s18 at h
  split at h
  · split at h
    · injection h with h; subst h; exact ⟨nAn, p19 m _⟩
    · cases h
  · cases h
def s4 : Spec := fun args => match args with
  | [.str _] => some (.bool true, [])
  | _ => none
theorem o4 (m : Int) : SpecOk PP (G8 m) 4 s4 := spec_of (X := XW) (m := []) mixed8 (tbl_cons (o11 m) (tbl_cons (o16 m) (tbl_cons (o17 m) (tbl_cons (o18 m) (tbl_cons (o19 m) tbl_nil))))) itbl_nil fun args r h => by
  unfold s4 at h
  split at h
  · injection h with h; subst h; exact ⟨nAn, p4 m _ s11 rfl⟩
  · cases h
end Go.Abs
