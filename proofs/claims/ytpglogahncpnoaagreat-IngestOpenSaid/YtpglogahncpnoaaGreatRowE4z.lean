/-
  For every list of acts the law IngestOpen returns true and leaves its argument as it was.
  Conditions: none.
-/
import Derived.Test.YtpglogahncpnoaaGreatPart10
namespace Go.Proofs.YtpglogahncpnoaaGreat.ingestOpen
open Go.ChangeShapes Go.WideShapes Go.ChangeAt Go.RowKit Go.ChangeMaps Go.Abs

theorem own : ownKnob Tryz.prog.godebug = none := by kernel_rfl
theorem law_walk {W : World} (l0 : List AcI) {v0 : Value} (h0 : Rep (oldE W) W (.sl 3 (acsL l0) .no) v0) (hsh : W.ShapedOpen Tryz.prog) : Calls Tryz.prog 5 #[v0] W fun e w' => e = .returned (.bool true) ∧ Below W.heap.size W w' := by
  obtain ⟨m, hm⟩ := Tryz.laysM144.s1_3 W hsh
  refine law_calls (ov5 m) (goodI (by kernel_rfl)) (args := [.sl 3 (acsL l0) .no]) (v5_true l0) (E := oldE W) (fun b o hb => hb) (globI hsh hm) rfl (fun i c v hi hv => ?_) (fun c hc => ?_)
  · match i, hi with
    | 0, hi => simp only [List.getElem?_cons_zero, Option.some.injEq] at hi; subst hi; simp at hv; subst hv; exact h0
    | i + 1, hi => simp at hi
  · simp only [List.mem_cons, List.not_mem_nil, or_false] at hc
    rcases hc with rfl; rfl

set_option maxRecDepth 100000 in
theorem contract (H : Type) (enc : TypeId × Value → H) (W : World) (base : Nat) (args : Array Value) (ds gs : List (DataW H)) (before : List MemPlace)
    (hval : ∀ (j : Nat) t v, Tryz.f5.params[j]? = some t → args[j]? = some v → Value.okWide Tryz.prog W .any base t v)
    (hW : DataW.Whole enc Tryz.prog Tryz.f5.params.toList Rows.ingestOpenSpec.vars false W args.toList ds gs before) (hsh : W.ShapedOpen Tryz.prog) :
    Calls Tryz.prog 5 args W fun e W' => ∃ v, e = .returned v ∧ Rows.ingestOpenSpec.post enc Tryz.prog Tryz.f5 false true false false W args v W' := by
  have hW' := hW
  obtain ⟨p, q, hA0, hV, rfl, hfz, hnd⟩ := hW
  have hA : DataW.TrodAll enc Tryz.prog W 0 (fun _ => true) true Tryz.f5.params.toList args.toList ds p := hA0
  rw [Tryz.params5] at hA hval
  obtain ⟨v0, vs0, d0, ds0, p0, q0, hargs, rfl, rfl, h0, r0⟩ := trodAll_cons hA
  obtain ⟨rfl, rfl, rfl⟩ := trodAll_nil r0
  obtain rfl : args = #[v0] := by cases args; simp_all
  obtain ⟨rfl, rfl⟩ := trodVars_none hV
  obtain ⟨l0, g0, q0⟩ := open_one (g := fun l => .sl 3 (acsL l) .no) rActs (one_slice Tryz.underlying46 (hval 0 46 v0 rfl rfl)) h0
  clear hA0
  simp only [List.append_nil] at hW'
  refine (law_walk l0 g0 hsh).mono fun e W' ⟨he, hb⟩ => ?_
  subst he
  exact ⟨_, rfl, law_post hW' rfl rfl rfl Tryz.underlying4 (by kernel_rfl) (by intro t ht; revert t; exact of_decide_eq_true (by kernel_rfl)) hb⟩

noncomputable abbrev wit (os : Os) : World := World.laidAll Tryz.prog os Rows.ingestOpenRow.laid
theorem laid_met (os : Os) : laidMet Tryz.prog Rows.ingestOpenRow.laid ((wit os).forCall (fun _ _ => 0) ⟨#[], #[.slice none 0 0], []⟩).memory :=
  laidMet_laidAll _ (by kernel_rfl) (by kernel_rfl)
theorem reads (os : Os) {H : Type} (enc : TypeId × Value → H) : ∃ places, DataW.whole enc Tryz.prog ((wit os).forCall (fun _ _ => 0) ⟨#[], #[.slice none 0 0], []⟩).memory Tryz.f5.params.toList Rows.ingestOpenSpec.vars false #[Value.slice none 0 0].toList 8 = some ([.nil], [], places) :=
  ⟨[], by kernel_rfl⟩

set_option maxRecDepth 100000 in
theorem lifted (os : Os) (started : os.Started) (H : Type) (enc : TypeId × Value → H) (F : Stop.Interp) :
    ReturnsInHanded {} Tryz.checked os 5 .any ((OpenSpec.ofChange Rows.ingestOpenSpec).preRow enc Tryz.prog Tryz.f5 Rows.ingestOpenRow.domain false Rows.ingestOpenRow.laid) (((OpenSpec.ofChange Rows.ingestOpenSpec).at F).post enc Tryz.prog Tryz.f5 false true false false) := by
  obtain ⟨places, hx⟩ := reads os enc
  refine returnsInHanded_of_row (C := Tryz.checked) (s := OpenSpec.ofChange Rows.ingestOpenSpec) own started (by kernel_rfl) Tryz.func5
    (witness_row_shaped (enc := enc) (C := Tryz.checked) (wit os) #[.slice none 0 0] (World.laidAll_os _ _ _) (World.shaped_of_ZipB (by kernel_rfl) (by kernel_rfl)) (by kernel_rfl)
      (OpenSpec.preRow_of_cond 8 hx (by kernel_rfl) (fun k hk => by cases hk) (by kernel_rfl) (laid_met os))) ?_
  intro W base args ds gs before hval hW _ _ _ _ hsh _
  exact contract H enc W base args ds gs before hval hW hsh

theorem said : Rows.IngestOpenSaid :=
  OpenClaim.holds_of_cond 5 Tryz.f5 rfl rfl rfl rfl rfl rfl rfl ⟨rfl, rfl, rfl, rfl, rfl⟩ rfl rfl rfl rfl rfl (by kernel_rfl) Tryz.func5 (by kernel_rfl)
    (of_decide_eq_true (by kernel_rfl)) (by unfold Func.isWrapper; first | (rw [if_pos (by decide +kernel)]; kernel_rfl) | (rw [if_neg (by decide +kernel)]; exact ⟨rfl, rfl⟩))
    (fun os started H enc _ F => by rw [OpenClaim.pre_eq_preRow]; exact lifted os started H enc F)
end Go.Proofs.YtpglogahncpnoaaGreat.ingestOpen
