/- what lexer's functions answer: the base -/
import Derived.Test.YtooobfhjklcnjaaDoorAbsV
import Derived.Test.YtooobfhjklcnjaaDoorProg
import Derived.Test.YtooobfhjklcnjaaDoorChecked
import Derived.Test.YtooobfhjklcnjaaDoorShelf
import Derived.KernelRfl
namespace Go.Abs
open Go.Proofs
noncomputable abbrev PP := Tryd.prog
def tensA : AV := .agg [.int .i64 1, .int .i64 10, .int .i64 100, .int .i64 1000, .int .i64 10000, .int .i64 100000, .int .i64 1000000]
def G8 (m : Int) : Glob := fun g => match g with
  | 0 => some (.int .i64 m)
  | 1 => some tensA
  | _ => none
def lib8 : List (FuncId × Spec) := [(50, sIndexByte), (53, sIndexByteString), (32, sContains)]
theorem mixed8 : PP.follows .mixedOrders = true := Tryd.checked.mixed
noncomputable def fnAt (f : Nat) : Func := (PP.funcs[f]?).getD default
theorem good8 {f : FuncId} (h : (match PP.funcs[f]? with | some fn => fn.body.isSome && !(fn.name == "runtime.NumGoroutine") | none => false) = true) : goodFn PP f := by
  split at h
  · rename_i fn hf
    simp only [Bool.and_eq_true, Bool.not_eq_true'] at h
    exact ⟨fn, hf, h.1, h.2⟩
  · cases h
theorem lib8_ok (m : Int) : CalleeOk PP (G8 m) (tbl lib8) := by
  refine tbl_cons (o_indexByte (fn := Tryd.f50) (by kernel_rfl) (by kernel_rfl) (by kernel_rfl) (by kernel_rfl) (by kernel_rfl)) (tbl_cons (o_indexByteString (fn := Tryd.f53) (by kernel_rfl) (by kernel_rfl) (by kernel_rfl) (by kernel_rfl) (by kernel_rfl)) (tbl_cons ?_ tbl_nil))
  exact o_contains (good8 (by kernel_rfl)) (g0 := 0) (m := m) rfl fun s sub m w hs hm => Tryd.strings_Contains s sub m w hs hm

theorem spec_run {P : Program} {G : Glob} {R0 : Callee} (hm : P.follows .mixedOrders = true) (h0 : CalleeOk P G R0) {f : FuncId} {s : Spec} (h : ∀ args r, s args = some r → ∃ n, (evs P G R0 (fun _ => []) n).1 f args = some r) : SpecOk P G f s := by
  intro g args r lv hr
  simp only at hr
  split at hr
  · rename_i e
    subst e
    obtain ⟨n, hn⟩ := h args _ hr
    exact (evs_ok hm h0 (fun _ => []) n).1 g args r lv hn
  · cases hr

def cls (c : Nat) : Nat :=
  if c = 9 ∨ c = 10 ∨ c = 13 ∨ c = 32 then 1 else
  if 97 ≤ c ∧ c ≤ 122 then 2 else
  if 48 ≤ c ∧ c ≤ 57 then 3 else
  if c = 95 then 4 else
  if c = 34 then 5 else
  if c = 35 then 6 else
  if c ∈ [123, 125, 40, 41, 91, 93, 44, 58, 59, 61, 60, 43, 45, 42, 47, 94, 64] then 7 else
  if c = 33 then 8 else 0
def classesA : AV := .agg ((List.range 256).map fun c => .int .u8 (cls c))
def s27 : Spec := fun args => match args with
  | [] => some (classesA, [])
  | _ => none
set_option maxRecDepth 100000 in
theorem run27 (m : Int) : (evs PP (G8 m) (tbl lib8) (fun _ => []) 60).1 27 [] = some (classesA, []) := by kernel_rfl
theorem o27 (m : Int) : SpecOk PP (G8 m) 27 s27 := spec_run mixed8 (lib8_ok m) fun args r h => by
  unfold s27 at h
  split at h
  · injection h with h; subst h; exact ⟨60, run27 m⟩
  · cases h
def lib8b : List (FuncId × Spec) := (27, s27) :: lib8
theorem lib8b_ok (m : Int) : CalleeOk PP (G8 m) (tbl lib8b) := tbl_cons (o27 m) (lib8_ok m)
end Go.Abs
