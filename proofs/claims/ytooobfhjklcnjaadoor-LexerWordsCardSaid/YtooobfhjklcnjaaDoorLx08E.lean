/- the examples of the chapter -/
import Derived.Test.YtooobfhjklcnjaaDoorLx08T
namespace Go.Abs
open Go.Proofs
def s12c : Spec := fun args => match args with
  | [.sl sz es .no] => if sz = 1 then match unBytes es with
    | some bs => tab12.lookup bs
    | none => none else none
  | _ => none
theorem lookup_mem {α β : Type} [BEq α] [LawfulBEq α] : ∀ {l : List (α × β)} {a : α} {b : β}, l.lookup a = some b → (a, b) ∈ l
  | [], a, b, h => by simp at h
  | (x, y) :: l, a, b, h => by
    rw [List.lookup_cons] at h
    split at h
    · rename_i e
      injection h with h
      have := eq_of_beq e
      subst this; subst h
      exact List.mem_cons_self
    · exact List.mem_cons_of_mem _ (lookup_mem h)
set_option maxRecDepth 100000 in
theorem o12c (m : Int) : SpecOk PP (G8 m) 12 s12c := spec_run mixed8 (lib8b_ok m) fun args r h => by
  unfold s12c at h
  split at h
  · rename_i sz es
    split at h
    · rename_i hs
      subst hs
      split at h
      · rename_i bs hb
        obtain rfl := unBytes_some hb
        exact ⟨200, run12 m (bs, r) (lookup_mem h)⟩
      · cases h
    · cases h
  · cases h
def lib8c : List (FuncId × Spec) := (12, s12c) :: lib8b
theorem lib8c_ok (m : Int) : CalleeOk PP (G8 m) (tbl lib8c) := tbl_cons (o12c m) (lib8b_ok m)
set_option maxRecDepth 100000 in
theorem run11 (m : Int) : (evs PP (G8 m) (tbl lib8c) (fun _ => []) 100).1 11 [] = some (.bool true, []) := by kernel_rfl
def s11 : Spec := fun args => match args with
  | [] => some (.bool true, [])
  | _ => none
theorem o11 (m : Int) : SpecOk PP (G8 m) 11 s11 := spec_run mixed8 (lib8c_ok m) fun args r h => by
  unfold s11 at h
  split at h
  · injection h with h; subst h; exact ⟨100, run11 m⟩
  · cases h
end Go.Abs
