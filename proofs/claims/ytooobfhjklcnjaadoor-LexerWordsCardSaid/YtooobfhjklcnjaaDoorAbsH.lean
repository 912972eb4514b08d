/-
  Operations that make memory or store: the model's runs.
-/
import Derived.Test.YtooobfhjklcnjaaDoorAbsG
namespace Go.Abs
open Go.RowKit

section
variable {P : Program} {E : Env} {w w' : World} {G : Glob} {N0 : Nat} {w0 : World} {I0 : Nat → Nat → Prop} {S : St}

theorem Rep.strip0 {a : AV} {v : Value} (h : Rep E w a v) : Rep E w a.strip0 v := by
  cases h with
  | sl sz es o A cap u hcap hmax hA hsz hcl ho hr h1 =>
    cases o with
    | tok t => exact .sl sz es .no A cap u hcap hmax hA hsz hcl trivial hr h1
    | full => exact .sl sz es .full A cap u hcap hmax hA hsz hcl ho hr h1
    | no => exact .sl sz es .no A cap u hcap hmax hA hsz hcl ho hr h1
    | nil => exact .sl sz es .nil A cap u hcap hmax hA hsz hcl ho hr h1
  | lit v h => exact .lit v h
  | bool b => exact .bool b
  | int k n => exact .int k n
  | str l s h => exact .str l s h
  | agg cs vs hn h1 h => exact .agg cs vs hn h1 h
  | tup cs vs hn h => exact .tup cs vs hn h
  | elt sz es i0 j0 b off u hcl hA hr h1 => exact .elt sz es i0 j0 b off u hcl hA hr h1
  | ptr b off blk h => exact .ptr b off blk h
  | fn f cs vs hn h => exact .fn f cs vs hn h
  | ifc t v => exact .ifc t v
  | junk v => exact .junk v
theorem Rep.strip1 {a : AV} {v : Value} (h : Rep E w a v) : Rep E w a.strip1 v := by
  by_cases ha : ∃ cs, a = .agg cs
  · obtain ⟨cs, rfl⟩ := ha
    cases h with | agg _ vs hn h1 h =>
    refine .agg _ vs (by simpa using hn) h1 fun i c v hi hv => ?_
    rw [List.getElem?_map] at hi
    cases hc : cs[i]? with
    | none => simp [hc] at hi
    | some c' =>
      simp [hc] at hi; subst hi
      exact (h i c' v hc hv).strip0
  · have : a.strip1 = a.strip0 := by cases a <;> simp_all [AV.strip1]
    rw [this]; exact h.strip0
theorem closed1_plain {a : AV} (h : a.closed1 = true) : a.plain = true := by
  cases a <;> simp_all [AV.closed1, AV.closed, AV.plain]

/-- cells of a variable -/
def CR (E : Env) (w : World) (cs : List AV) (arr : Array Value) : Prop :=
  arr.size = cs.length ∧ ∀ (i : Nat) (c : AV) (v : Value), cs[i]? = some c → arr[i]? = some v → Rep E w c v ∧ v.oneCell' = true
def spliceV (cells : Array Value) (off : Nat) (xs : Array Value) : Array Value := (cells.toList.take off ++ xs.toList ++ cells.toList.drop (off + xs.size)).toArray

theorem CR.splice {cs xs : List AV} {arr ys : Array Value} {o : Nat} (h : CR E w cs arr) (k : CR E w xs ys) (ho : o + xs.length ≤ cs.length) : CR E w (spliceA cs o xs) (spliceV arr o ys) := by
  have hx := k.1
  have ha := h.1
  refine ⟨by simp [spliceA, spliceV]; omega, fun i c v hi hv => ?_⟩
  simp only [spliceA, List.append_assoc] at hi
  simp only [spliceV, List.append_assoc, List.getElem?_toArray] at hv
  have l1 : (cs.take o).length = o := by rw [List.length_take]; omega
  have l2 : (arr.toList.take o).length = o := by rw [List.length_take, Array.length_toList]; omega
  by_cases h1 : i < o
  · rw [List.getElem?_append_left (by omega), List.getElem?_take_of_lt h1] at hi
    rw [List.getElem?_append_left (by omega), List.getElem?_take_of_lt h1] at hv
    exact h.2 i c v hi (by simpa using hv)
  · rw [List.getElem?_append_right (by omega), l1] at hi
    rw [List.getElem?_append_right (by omega), l2] at hv
    by_cases h2 : i - o < xs.length
    · rw [List.getElem?_append_left h2] at hi
      rw [List.getElem?_append_left (by rw [Array.length_toList]; omega)] at hv
      exact k.2 _ c v hi (by simpa using hv)
    · rw [List.getElem?_append_right (by omega), List.getElem?_drop] at hi
      rw [List.getElem?_append_right (by rw [Array.length_toList]; omega), List.getElem?_drop, Array.length_toList] at hv
      have e1 : o + xs.length + (i - o - xs.length) = i := by omega
      have e2 : o + ys.size + (i - o - ys.size) = i := by omega
      rw [e1] at hi
      rw [e2] at hv
      exact h.2 i c v hi (by simpa using hv)

theorem set_fold (off : Nat) : ∀ (xs : List Value) (k : Nat) (cs : Array Value), off + k + xs.length ≤ cs.size →
    (xs.zipIdx k).foldl (fun cs (x : Value × Nat) => cs.setIfInBounds (off + x.2) x.1) cs = (cs.toList.take (off + k) ++ xs ++ cs.toList.drop (off + k + xs.length)).toArray
  | [], k, cs, _ => by simp
  | x :: t, k, cs, h => by
    simp only [List.zipIdx_cons, List.foldl_cons]
    have h' : off + (k + 1) + t.length ≤ (cs.setIfInBounds (off + k) x).size := by simp at h ⊢; omega
    rw [set_fold off t (k + 1) _ h']
    apply Array.ext'
    simp only [Array.toList_setIfInBounds]
    have hl : off + k < cs.toList.length := by simp at h ⊢; omega
    have e1 : (cs.toList.set (off + k) x).take (off + (k + 1)) = cs.toList.take (off + k) ++ [x] := by
      rw [show off + (k + 1) = (off + k) + 1 by omega, List.take_add_one, List.getElem?_set_self hl, List.take_set_of_le (Nat.le_refl _)]
      rfl
    have e2 : (cs.toList.set (off + k) x).drop (off + (k + 1) + t.length) = cs.toList.drop (off + k + (x :: t).length) := by
      rw [List.drop_set_of_lt (by omega)]
      congr 1
      simp; omega
    rw [e1, e2]
    simp

theorem fill_cons {place : Nat → Option (Nat × Nat)} {cells : Array Value} {i off size : Nat} {v : Value} {rest : List (Nat × Value)} (hp : place i = some (off, size)) (hs : v.cells.size = size) (ho : off + v.cells.size ≤ cells.size) :
    Instr.fill place cells ((i, v) :: rest) = Instr.fill place (spliceV cells off v.cells) rest := by
  have h1 : ¬ (v.cells.size ≠ size || off + v.cells.size > cells.size) = true := by simp; omega
  rw [Instr.fill]
  simp only [hp]
  rw [if_neg h1]
  congr 1
  rw [← Array.foldl_toList, Array.toList_zipIdx]
  have := set_fold off v.cells.toList 0 cells (by simpa using ho)
  simpa [spliceV] using this

theorem Rep.cr {a : AV} {v : Value} (h : Rep E w a v) (hp : a.plain = true) : CR E w a.cells v.cells := h.cells hp

theorem fillA_run {place : Nat → Option (Nat × Nat)} : ∀ (ps : List (Nat × AV)) (qs : List (Nat × Value)) (cs r : List AV) (arr : Array Value), CR E w cs arr →
    ps.length = qs.length → (∀ (i : Nat) (p : Nat × AV) (q : Nat × Value), ps[i]? = some p → qs[i]? = some q → p.1 = q.1 ∧ Rep E w p.2 q.2) → fillA place cs ps = some r → ∃ arr', Instr.fill place arr qs = some arr' ∧ CR E w r arr'
  | [], [], cs, r, arr, hc, _, _, h => by
    simp [fillA] at h; subst h
    exact ⟨arr, by simp [Instr.fill], hc⟩
  | (i, a) :: ps, (i', v) :: qs, cs, r, arr, hc, hl, hr, h => by
    obtain ⟨e, hav⟩ := hr 0 _ _ rfl rfl
    simp only at e hav
    subst e
    simp only [fillA] at h
    split at h
    · cases h
    · rename_i off size hp
      split at h
      · rename_i hh
        obtain ⟨h1, h2, h3⟩ := hh
        have hcr := hav.cr h1
        have hsz : v.cells.size = size := by rw [hcr.1]; exact h2
        rw [fill_cons hp hsz (by rw [hcr.1, hc.1]; exact h3)]
        exact fillA_run ps qs _ r _ (hc.splice hcr h3) (by simpa using hl) (fun k p q hp hq => hr (k + 1) p q (by simpa using hp) (by simpa using hq)) h
      · cases h
  | [], _ :: _, _, _, _, _, hl, _, _ => by simp at hl
  | _ :: _, [], _, _, _, _, hl, _, _ => by simp at hl

/-- parts of a literal -/
def PR (E : Env) (w : World) (ps : List (Nat × AV)) (qs : List (Nat × Value)) : Prop :=
  ps.length = qs.length ∧ ∀ (i : Nat) (p : Nat × AV) (q : Nat × Value), ps[i]? = some p → qs[i]? = some q → p.1 = q.1 ∧ Rep E w p.2 q.2

theorem mapM_places (fs : List Field) (h : fs.all (fun f => (sizeA P f.type).isSome) = true) : (fs.mapM fun f => (do pure (f.offset, ← sizeOf f.type) : Sem (Nat × Nat))).run P w = .ok (fs.map fun f => (f.offset, (sizeA P f.type).getD 0)) w := by
  induction fs with
  | nil => rfl
  | cons f fs ih =>
    simp only [List.all_cons, Bool.and_eq_true] at h
    obtain ⟨s, hs⟩ := Option.isSome_iff_exists.1 h.1
    simp only [List.mapM_cons, Sem.run_bind, run_sizeOf' hs, Result.andThen_ok, Sem.run_pure, ih h.2, List.map_cons, hs, Option.getD_some]

theorem buildA_run {t : TypeId} {ps : List (Nat × AV)} {qs : Array (Nat × Value)} {r : AV} (h : buildA P t ps = some r) (hp : PR E w ps qs.toList) : ∃ v, (Instr.build t qs).run P w = .ok v w ∧ Rep E w r v := by
  unfold buildA at h
  split at h
  · rename_i z fs hz hu
    split at h
    · rename_i hh
      obtain ⟨h1, h2⟩ := hh
      cases hf : fillA (fun i => (fs[i]?).map fun f => (f.offset, (sizeA P f.type).getD 0)) (z.cells.toList.map absV0) ps with
      | none => simp [hf] at h
      | some cs =>
        simp [hf] at h; subst h
        rw [List.all_eq_true] at h1
        have hc0 : CR E w (z.cells.toList.map absV0) z.cells := ⟨by simp, fun i c v hi hv => ⟨absV0_map hi (by simpa using hv), h1 v (by simpa using Array.mem_of_getElem? hv)⟩⟩
        obtain ⟨arr, hfill, hcr⟩ := fillA_run ps qs.toList _ cs z.cells hc0 hp.1 hp.2 hf
        refine ⟨.agg arr, ?_, .agg cs arr hcr.1 (fun i v hv => ?_) (fun i c v hi hv => (hcr.2 i c v hi hv).1)⟩
        · have hm := mapM_places (P := P) (w := w) fs.toList h2
          have hm' : (fs.mapM fun f => (do pure (f.offset, ← sizeOf f.type) : Sem (Nat × Nat))).run P w = .ok (fs.toList.map fun f => (f.offset, (sizeA P f.type).getD 0)).toArray w := by
            rw [Array.mapM_eq_mapM_toList, Sem.run_map, hm]
            rfl
          have e : (fun i : Nat => ((fs.toList.map fun f => (f.offset, (sizeA P f.type).getD 0)).toArray)[i]?) = fun i => (fs[i]?).map fun f => (f.offset, (sizeA P f.type).getD 0) := by
            funext i; simp
          simp only [Instr.build, Sem.run_bind, run_zero hz, Result.andThen_ok, run_underlying hu, hm', e, hfill, Sem.run_pure]
        · have hi : i < cs.length := by
            have := (Array.getElem?_eq_some_iff.1 hv).1
            rw [hcr.1] at this; exact this
          exact (hcr.2 i cs[i] v (List.getElem?_eq_getElem hi) hv).2
    · cases h
  · cases h
end
end Go.Abs
