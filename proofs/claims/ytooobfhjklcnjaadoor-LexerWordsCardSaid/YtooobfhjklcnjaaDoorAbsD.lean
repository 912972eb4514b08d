/-
  The operations without memory: what the abstract operation says is what the model does.
-/
import Derived.Test.YtooobfhjklcnjaaDoorAbsC
namespace Go.Abs
open Go.RowKit

section
variable {P : Program} {E : Env} {w : World}

theorem intA_run {op : BinOp} {t : TypeId} {k : IntKind} {a b : Int} {r : AV} (h : intA op k a b = some r) (h1 : op ≠ .shl) (h2 : op ≠ .shr) :
    ∃ v, (binOp op t (.int k a) (.int k b)).run P w = .ok v w ∧ Rep E w r v := by
  cases op <;> first
    | (simp only [intA, bitsA, cmpA, Option.some.injEq] at h; subst h; refine ⟨_, ?_, by constructor⟩; simp [binOp, Op.intArith, Op.intBits, Op.intCmp]; done)
    | (simp only [intA] at h
       split at h
       · cases h
       · rename_i h0
         simp only [Option.some.injEq] at h; subst h; refine ⟨_, ?_, by constructor⟩; simp [binOp, Op.intDiv, h0]; done)
    | (exact absurd rfl h1)
    | (exact absurd rfl h2)

theorem shiftA_run {op : BinOp} {t : TypeId} {k k' : IntKind} {a b : Int} {r : AV} (h : shiftA op k a b = some r) :
    ∃ v, (binOp op t (.int k a) (.int k' b)).run P w = .ok v w ∧ Rep E w r v := by
  unfold shiftA at h
  split at h
  · cases h
  · rename_i hb
    cases op <;> first
      | (simp only [Option.some.injEq] at h; subst h; refine ⟨_, ?_, by constructor⟩; simp [binOp, Op.shift, hb]; done)
      | (simp at h; done)

theorem toList_data (s : ByteArray) : s.toList = s.data.toList := ByteArray.toList_eq s
theorem size_data (s : ByteArray) : s.size = s.data.toList.length := (Array.length_toList (xs := s.data)).symm

theorem strA_run {op : BinOp} {t : TypeId} {a b : ByteArray} {r : AV} (h : strA op a.data.toList b.data.toList = some r) :
    ∃ v, (binOp op t (.string a) (.string b)).run P w = .ok v w ∧ Rep E w r v := by
  cases op <;> first
    | (simp only [strA, Option.some.injEq] at h; subst h; refine ⟨_, ?_, by constructor⟩; simp only [binOp, Op.stringOp, toList_data]; rfl)
    | (simp only [strA] at h
       split at h
       · rename_i h0
         simp only [Option.some.injEq] at h; subst h
         refine ⟨.string (a ++ b), ?_, .str _ _ (by simp [ByteArray.data_append])⟩
         have h1 : ¬ ((9223372036854775807 : Int) < (a.size + b.size : Nat)) := by rw [size_data, size_data]; omega
         simp only [binOp, Op.stringOp, gt_iff_lt, show IntKind.i64.max = 9223372036854775807 from rfl, h1, if_false]; rfl
       · cases h)
    | (simp [strA] at h; done)

theorem eqScalA_run {D : Nat} {t : TypeId} {x y : AV} {vx vy : Value} {b : Bool} (h : eqScalA P t x y = some b) (hx : Rep E w x vx) (hy : Rep E w y vy) :
    (Op.equalIn (D + 1) t vx vy).run P w = .ok b w := by
  unfold eqScalA at h
  split at h
  · split at h
    · rename_i hu
      simp at h; subst h
      cases hx; cases hy
      exact run_equalIn_bool' w D t _ _ hu
    · cases h
  · split at h
    · rename_i hu
      split at h
      · rename_i hk
        simp at h; subst h
        cases hx; cases hy
        subst hk
        exact run_equalIn_int w D t _ _ _ _ hu
      · cases h
    · cases h
  · split at h
    · rename_i hu
      simp at h; subst h
      cases hx with | str _ s hs => cases hy with | str _ s' hs' =>
      subst hs; subst hs'
      rw [run_equalIn_string w D t s s' hu, toList_data, toList_data]
    · cases h
  · cases h

theorem part_rep {t : TypeId} {cs : List AV} {vs : Array Value} {off : Nat} {x : AV} (h : subA P t cs off = some x) (hr : Rep E w (.agg cs) (.agg vs)) :
    ∃ v, (part t vs off).run P w = .ok v w ∧ Rep E w x v := by
  cases hr with | agg _ _ hn h1 hc =>
  unfold subA at h
  split at h
  · rename_i ha
    cases hs : sizeA P t with
    | none => simp [hs] at h
    | some s =>
      simp [hs] at h; subst h
      refine ⟨.agg (vs.extract off (off + s)), ?_, ?_⟩
      · simp [part, run_isAgg ha, run_sizeOf' hs]
      · refine .agg _ _ (by simp [Array.size_extract]; omega) (fun i v hv => ?_) (fun i c v hi hv => ?_)
        · rw [Array.getElem?_extract] at hv
          split at hv
          · exact h1 _ _ hv
          · cases hv
        · rw [Array.getElem?_extract] at hv
          split at hv
          · rw [List.getElem?_take] at hi
            split at hi
            · rw [List.getElem?_drop] at hi
              exact hc _ _ _ hi hv
            · cases hi
          · cases hv
  · rename_i ha
    have hlt : off < vs.size := by
      have := (List.getElem?_eq_some_iff.1 h).1
      omega
    refine ⟨vs[off], ?_, hc off x _ h (Array.getElem?_eq_getElem hlt)⟩
    simp [part, run_isAgg ha, Array.getElem?_eq_getElem hlt]
  · cases h

theorem eqA_run : ∀ (d : Nat),
    (∀ (D : Nat) (t : TypeId) (x y : AV) (vx vy : Value) (b : Bool), d ≤ D → eqA P d t x y = some b → Rep E w x vx → Rep E w y vy → (Op.equalIn D t vx vy).run P w = .ok b w) ∧
    (∀ (D : Nat) (xs ys : List AV) (vx vy : Array Value) (fs : List Field) (b : Bool), d ≤ D → eqFieldsA P d xs ys fs = some b → Rep E w (.agg xs) (.agg vx) → Rep E w (.agg ys) (.agg vy) → (Op.eqFields D vx vy fs).run P w = .ok b w) := by
  intro d
  induction d with
  | zero =>
    refine ⟨fun D t x y vx vy b _ h => by simp [eqA] at h, fun D xs ys vx vy fs b _ h => ?_⟩
    cases fs with
    | nil => simp [eqFieldsA] at h; subst h; intros; rfl
    | cons f fs => simp [eqFieldsA] at h
  | succ d ih =>
    have first : ∀ (D : Nat) (t : TypeId) (x y : AV) (vx vy : Value) (b : Bool), d + 1 ≤ D → eqA P (d + 1) t x y = some b → Rep E w x vx → Rep E w y vy → (Op.equalIn D t vx vy).run P w = .ok b w := by
      intro D t x y vx vy b hD h hx hy
      obtain ⟨D, rfl⟩ : ∃ D', D = D' + 1 := ⟨D - 1, by omega⟩
      by_cases ha : ∃ xs ys, x = .agg xs ∧ y = .agg ys
      · obtain ⟨xs, ys, rfl, rfl⟩ := ha
        simp only [eqA] at h
        split at h
        · rename_i fs hu
          split at h
          · cases h
          · rename_i hp
            cases hx with | agg _ vx hn h1 hc => cases hy with | agg _ vy hn' h1' hc' =>
            have hf : P.fieldsOf t = fs := by simp [Program.fieldsOf, hu]
            rw [run_equalIn_struct w D t vx vy (by rw [hf]; exact hu) (by simpa using hp), hf]
            exact ih.2 D xs ys vx vy fs.toList b (by omega) h (.agg _ _ hn h1 hc) (.agg _ _ hn' h1' hc')
        · cases h
      · have h' : eqScalA P t x y = some b := by
          unfold eqA at h
          split at h
          · contradiction
          · exact absurd ⟨_, _, rfl, rfl⟩ ha
          · exact h
        exact eqScalA_run h' hx hy
    refine ⟨first, fun D xs ys vx vy fs => ?_⟩
    induction fs with
    | nil => intro b _ h; simp [eqFieldsA] at h; subst h; intros; rfl
    | cons f fs ihf =>
      intro b hD h hx hy
      simp only [eqFieldsA] at h
      split at h
      · cases h
      · rename_i hnm
        split at h
        · rename_i x y hsx hsy
          obtain ⟨ux, hux, hrx⟩ := part_rep hsx hx
          obtain ⟨uy, huy, hry⟩ := part_rep hsy hy
          simp only [Op.eqFields, ne_eq, hnm, not_false_eq_true, if_true, Sem.run_bind, hux, huy, Result.andThen_ok]
          split at h
          · rename_i he
            rw [ih.1 D f.type x y ux uy true (by omega) he hrx hry]
            simp only [Result.andThen_ok, Bool.not_true, Bool.false_eq_true, if_false]
            exact ih.2 D xs ys vx vy fs b (by omega) h hx hy
          · rename_i he
            simp at h; subst h
            rw [ih.1 D f.type x y ux uy false (by omega) he hrx hry]
            simp
          · cases h
        · cases h
end
end Go.Abs
