/-
  Operations on values, addresses and memory that is read.
-/
import Derived.Test.YtooobfhjklcnjaaDoorAbsD
import Derived.Laws.IdiomStrings
namespace Go.Abs
open Go.RowKit

theorem add_plain (b o k : Nat) : (⟨b, o, none⟩ : Addr).add k = ⟨b, o + k, none⟩ := by
  unfold Addr.add; split <;> simp_all

section
variable {P : Program} {E : Env} {w : World}

theorem eqScalA_kind {t : TypeId} {x y : AV} {b : Bool} (h : eqScalA P t x y = some b) : (∃ b, x = .bool b) ∨ (∃ k n, x = .int k n) ∨ ∃ s, x = .str s := by
  unfold eqScalA at h
  split at h
  · exact .inl ⟨_, rfl⟩
  · exact .inr (.inl ⟨_, _, rfl⟩)
  · exact .inr (.inr ⟨_, rfl⟩)
  · cases h

theorem guard_pure {op : BinOp} {t : TypeId} {ox oy : Operand} {x y : Value} (h : (∃ b, x = .bool b) ∨ (∃ k n, x = .int k n) ∨ ∃ s, x = .string s) : (eqGuard op t ox oy x y).run P w = .ok () w := by
  rcases h with ⟨b, rfl⟩ | ⟨k, n, rfl⟩ | ⟨s, rfl⟩ <;> (unfold eqGuard; split <;> rfl)

theorem equalA_run {t : TypeId} {x y : AV} {vx vy : Value} {b : Bool} (h : equalA P t x y = some b) (hx : Rep E w x vx) (hy : Rep E w y vy) :
    (Op.equal t vx vy).run P w = .ok b w ∧ ∀ op ox oy, (eqGuard op t ox oy vx vy).run P w = .ok () w := by
  unfold equalA at h
  split at h
  · split at h
    · cases h
    · rename_i hg
      refine ⟨(eqA_run eqDepth).1 Op.maxDepth _ _ _ _ _ _ (by decide) h hx hy, fun op ox oy => ?_⟩
      cases hx; cases hy
      cases op <;> simp [eqGuard, hg]
  · rename_i ha
    refine ⟨(eqA_run eqDepth).1 Op.maxDepth _ _ _ _ _ _ (by decide) h hx hy, fun op ox oy => guard_pure ?_⟩
    have h' : eqScalA P t x y = some b := by
      unfold eqA at h
      split at h
      · contradiction
      · exact (ha _ _ rfl rfl).elim
      · exact h
    rcases eqScalA_kind h' with ⟨b, rfl⟩ | ⟨k, n, rfl⟩ | ⟨s, rfl⟩
    · cases hx; exact .inl ⟨_, rfl⟩
    · cases hx; exact .inr (.inl ⟨_, _, rfl⟩)
    · cases hx; exact .inr (.inr ⟨_, rfl⟩)

theorem binOp_eql {t : TypeId} {x y : Value} {b : Bool} (h : (Op.equal t x y).run P w = .ok b w) (hi : ∀ k n k' m, ¬ (x = .int k n ∧ y = .int k' m)) (hs : ∀ s s', ¬ (x = .string s ∧ y = .string s')) :
    (∀ k n k' m, ¬ (x = .float k n ∧ y = .float k' m)) → (∀ k n m k' n' m', ¬ (x = .complex k n m ∧ y = .complex k' n' m')) → (binOp .eql t x y).run P w = .ok (.bool b) w ∧ (binOp .neq t x y).run P w = .ok (.bool !b) w := by
  intro hf hc
  constructor
  · unfold binOp
    split <;> first | (rename_i h1 _ _; cases h1; done) | (exact absurd ⟨rfl, rfl⟩ (hi _ _ _ _)) | (exact absurd ⟨rfl, rfl⟩ (hs _ _)) | (exact absurd ⟨rfl, rfl⟩ (hf _ _ _ _)) | (exact absurd ⟨rfl, rfl⟩ (hc _ _ _ _ _ _)) | simp_all
  · unfold binOp
    split <;> first | (rename_i h1 _ _; cases h1; done) | (exact absurd ⟨rfl, rfl⟩ (hi _ _ _ _)) | (exact absurd ⟨rfl, rfl⟩ (hs _ _)) | (exact absurd ⟨rfl, rfl⟩ (hf _ _ _ _)) | (exact absurd ⟨rfl, rfl⟩ (hc _ _ _ _ _ _)) | simp_all

theorem equalIn_nil {d : Nat} {t : TypeId} {ms : Array (String × TypeId)} (hu : P.underlying t = some (.interface ms)) : (Op.equalIn (d + 1) t .nilIface .nilIface).run P w = .ok true w := by
  simp only [Op.equalIn, Sem.run_bind, run_underlying hu, Result.andThen_ok, Sem.run_pure]
theorem equalIn_nil_l {d : Nat} {t ti : TypeId} {u : Value} {ms : Array (String × TypeId)} (hu : P.underlying t = some (.interface ms)) : (Op.equalIn (d + 1) t .nilIface (.iface ti u)).run P w = .ok false w := by
  simp only [Op.equalIn, Sem.run_bind, run_underlying hu, Result.andThen_ok, Sem.run_pure]
theorem equalIn_nil_r {d : Nat} {t ti : TypeId} {u : Value} {ms : Array (String × TypeId)} (hu : P.underlying t = some (.interface ms)) : (Op.equalIn (d + 1) t (.iface ti u) .nilIface).run P w = .ok false w := by
  simp only [Op.equalIn, Sem.run_bind, run_underlying hu, Result.andThen_ok, Sem.run_pure]
theorem equal_nil {t : TypeId} {ms : Array (String × TypeId)} (hu : P.underlying t = some (.interface ms)) : (Op.equal t .nilIface .nilIface).run P w = .ok true w := equalIn_nil (d := 9999) hu
theorem equal_nil_l {t ti : TypeId} {u : Value} {ms : Array (String × TypeId)} (hu : P.underlying t = some (.interface ms)) : (Op.equal t .nilIface (.iface ti u)).run P w = .ok false w := equalIn_nil_l (d := 9999) hu
theorem equal_nil_r {t ti : TypeId} {u : Value} {ms : Array (String × TypeId)} (hu : P.underlying t = some (.interface ms)) : (Op.equal t (.iface ti u) .nilIface).run P w = .ok false w := equalIn_nil_r (d := 9999) hu
theorem guard_nil {op : BinOp} {t : TypeId} {ox oy : Operand} (h : (isK ox || isK oy) = true) : (eqGuard op t ox oy .nilIface .nilIface).run P w = .ok () w := by
  cases op <;> cases ox <;> cases oy <;> first | (simp [isK] at h; done) | rfl | simp [eqGuard]
theorem rep_nilI {v : Value} (h : Rep E w (.lit .nilIface) v) : v = .nilIface := by cases h; rfl
theorem rep_ifc {v : Value} (h : Rep E w .ifc v) : ∃ t u, v = .iface t u := by cases h; exact ⟨_, _, rfl⟩
theorem binA_run {op : BinOp} {t : TypeId} {ox oy : Operand} {kc : Bool} (hk : kc = true → (isK ox || isK oy) = true) {x y r : AV} {vx vy : Value} (h : binA P op t kc x y = some r) (hx : Rep E w x vx) (hy : Rep E w y vy) :
    ∃ v, (do eqGuard op t ox oy vx vy; binOp op t vx vy : Sem Value).run P w = .ok v w ∧ Rep E w r v := by
  unfold binA at h
  split at h
  · have e1 := rep_nilI hx
    have e2 := rep_nilI hy
    subst e1; subst e2
    split at h
    · rename_i ms hu
      simp at h; subst h
      refine ⟨.bool true, ?_, .bool _⟩
      simp [guard_nil (hk rfl), binOp, equal_nil hu]
    · rename_i ms hu
      simp at h; subst h
      refine ⟨.bool false, ?_, .bool _⟩
      simp [guard_nil (hk rfl), binOp, equal_nil hu]
    · cases h
  · have e1 := rep_nilI hx
    subst e1
    obtain ⟨ti, u, rfl⟩ := rep_ifc hy
    split at h
    · rename_i ms hu
      simp at h; subst h
      exact ⟨.bool false, by simp [eqGuard, binOp, equal_nil_l hu], .bool _⟩
    · rename_i ms hu
      simp at h; subst h
      exact ⟨.bool true, by simp [eqGuard, binOp, equal_nil_l hu], .bool _⟩
    · cases h
  · have e1 := rep_nilI hy
    subst e1
    obtain ⟨ti, u, rfl⟩ := rep_ifc hx
    split at h
    · rename_i ms hu
      simp at h; subst h
      exact ⟨.bool false, by simp [eqGuard, binOp, equal_nil_r hu], .bool _⟩
    · rename_i ms hu
      simp at h; subst h
      exact ⟨.bool true, by simp [eqGuard, binOp, equal_nil_r hu], .bool _⟩
    · cases h
  · cases hx; cases hy
    have hg := guard_pure (P := P) (w := w) (op := op) (t := t) (ox := ox) (oy := oy) (x := .int ‹IntKind› ‹Int›) (y := .int ‹IntKind› ‹Int›) (.inr (.inl ⟨_, _, rfl⟩))
    simp only [Sem.run_bind]
    split at h
    · obtain ⟨v, hv, hr⟩ := shiftA_run (w := w) (E := E) (t := t) h
      exact ⟨v, by rw [guard_pure (.inr (.inl ⟨_, _, rfl⟩))]; exact hv, hr⟩
    · obtain ⟨v, hv, hr⟩ := shiftA_run (w := w) (E := E) (t := t) h
      exact ⟨v, by rw [guard_pure (.inr (.inl ⟨_, _, rfl⟩))]; exact hv, hr⟩
    · rename_i h1 h2
      split at h
      · rename_i hk
        subst hk
        obtain ⟨v, hv, hr⟩ := intA_run (w := w) (E := E) (P := P) (t := t) h (fun e => h1 e) (fun e => h2 e)
        exact ⟨v, by rw [guard_pure (.inr (.inl ⟨_, _, rfl⟩))]; exact hv, hr⟩
      · cases h
  · cases hx with | str _ s hs => cases hy with | str _ s' hs' =>
    subst hs; subst hs'
    obtain ⟨v, hv, hr⟩ := strA_run (w := w) (E := E) (P := P) (t := t) h
    exact ⟨v, by simp only [Sem.run_bind]; rw [guard_pure (.inr (.inr ⟨_, rfl⟩))]; exact hv, hr⟩
  · rename_i _ _ _ hn1 hn2
    have key : ∀ b, equalA P t x y = some b → (binOp .eql t vx vy).run P w = .ok (.bool b) w ∧ (binOp .neq t vx vy).run P w = .ok (.bool !b) w ∧ ∀ op ox oy, (eqGuard op t ox oy vx vy).run P w = .ok () w := by
      intro b hb
      obtain ⟨h1, h2⟩ := equalA_run hb hx hy
      have := binOp_eql h1 (fun k n k' m ⟨e1, e2⟩ => by
          subst e1; subst e2
          cases hx with
          | int => cases hy with
            | int => exact hn1 _ _ _ _ rfl rfl
            | lit _ hl => simp [litOk] at hl
            | junk => simp [equalA, eqA, eqDepth, eqScalA] at hb
          | lit _ hl => simp [litOk] at hl
          | junk => simp [equalA, eqA, eqDepth, eqScalA] at hb) (fun s s' ⟨e1, e2⟩ => by
          subst e1; subst e2
          cases hx with
          | str => cases hy with
            | str => exact hn2 _ _ rfl rfl
            | lit _ hl => simp [litOk] at hl
            | junk => simp [equalA, eqA, eqDepth, eqScalA] at hb
          | lit _ hl => simp [litOk] at hl
          | junk => simp [equalA, eqA, eqDepth, eqScalA] at hb) (fun k n k' m ⟨e1, e2⟩ => by
          subst e1; subst e2
          cases hx <;> simp [equalA, eqA, eqDepth, eqScalA] at hb) (fun k n m k' n' m' ⟨e1, e2⟩ => by
          subst e1; subst e2
          cases hx <;> simp [equalA, eqA, eqDepth, eqScalA] at hb)
      exact ⟨this.1, this.2, h2⟩
    split at h
    · cases he : equalA P t x y with
      | none => simp [he] at h
      | some b =>
        simp [he] at h; subst h
        obtain ⟨h1, _, h3⟩ := key b he
        exact ⟨_, by simp only [Sem.run_bind, h3, Result.andThen_ok]; exact h1, .bool b⟩
    · cases he : equalA P t x y with
      | none => simp [he] at h
      | some b =>
        simp [he] at h; subst h
        obtain ⟨_, h1, h3⟩ := key b he
        exact ⟨_, by simp only [Sem.run_bind, h3, Result.andThen_ok]; exact h1, .bool _⟩
    · cases h

theorem unA_run {op : UnOp} {x r : AV} {vx : Value} (h : unA op x = some r) (hx : Rep E w x vx) : ∃ v, (Op.unary op vx).run P w = .ok v w ∧ Rep E w r v := by
  unfold unA at h
  split at h
  · cases hx
    split at h
    · simp at h; subst h; exact ⟨_, by simp [Op.unary, Op.intArith], .int _ _⟩
    · simp [bitsA] at h; subst h; exact ⟨_, by simp [Op.unary, Op.intBits], .int _ _⟩
    · cases h
  · cases hx
    split at h
    · simp at h; subst h; exact ⟨_, by simp [Op.unary], .bool _⟩
    · cases h
  · cases h

theorem fieldAddrA_run {s : TypeId} {f : Nat} {x r : AV} {vx : Value} (h : fieldAddrA P s f x = some r) (hx : Rep E w x vx) : ∃ v, (Instr.fieldAt s vx f).run P w = .ok v w ∧ Rep E w r v := by
  unfold fieldAddrA at h
  split at h
  · rename_i fs hu
    split at h
    · rename_i fd hf
      split at h
      · cases h
      · rename_i hz
        simp only [not_or] at hz
        obtain ⟨z, hz'⟩ := Option.ne_none_iff_exists'.1 hz.2
        have hz0 : z ≠ 0 := fun e => hz.1 (e ▸ hz')
        have hplace : ∀ b o, (fieldPlace ⟨b, o, none⟩ fd).run P w = .ok ⟨b, o + fd.offset, none⟩ w := fun b o => by
          simp [fieldPlace, run_sizeOf' hz', hz0, add_plain]
        split at h
        · simp at h; subst h
          cases hx with | ptr _ _ blk hb =>
          exact ⟨_, by simp [Instr.fieldAt, run_underlying hu, hf, Instr.sureAddr, hplace], .ptr _ _ _ hb⟩
        · simp at h; subst h
          cases hx with | elt _ _ _ _ b off u hcl hA hc h1 =>
          exact ⟨_, by simp only [Instr.fieldAt, Sem.run_bind, run_underlying hu, Result.andThen_ok, hf, Instr.sureAddr, Sem.run_pure, hplace, Nat.add_assoc]; rfl, by
            rw [← Nat.add_assoc]; exact .elt _ _ _ _ b off u hcl hA hc h1⟩
        · cases h
    · cases h
  · cases h
end
end Go.Abs
