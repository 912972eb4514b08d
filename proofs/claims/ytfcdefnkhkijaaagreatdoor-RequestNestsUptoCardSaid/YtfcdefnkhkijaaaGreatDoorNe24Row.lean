/-
  RequestNests: for every request and every number the law answers true, and its arguments read as before, where what is read is of bulk at most 1048576.
  Conditions: none.
-/
import Derived.Test.YtfcdefnkhkijaaaGreatDoorPart8
import Derived.Test.YtfcdefnkhkijaaaGreatDoorCards
import Derived.Test.YtfcdefnkhkijaaaGreatDoorTie
import Derived.SevenTiedAt
namespace Go.Proofs.YtfcdefnkhkijaaaGreatDoor.requestNests
open Go.ChangeShapes Go.WideShapes Go.ChangeAt Go.RowKit Go.ChangeMaps Go.Abs

theorem own : ownKnob Tryz.prog.godebug = none := by kernel_rfl
theorem law_walk {W : World} (l0 : Rq) (l1 : Int) {v0 v1 : Value} (h0 : Rep (oldE W) W (.agg (rqA l0).cells) v0) (h1 : Rep (oldE W) W (.int .i64 l1) v1) (hk : ∀ l ∈ l0.labels, lbFit 0 l) (hL : laidMetH Tryz.prog Rows.requestNestsUptoRow.laid W) (hsh : W.ShapedOpen Tryz.prog) : Calls Tryz.prog 6 #[v0, v1] W fun e w' => e = .returned (.bool true) ∧ Below W.heap.size W w' := by
  obtain ⟨m, hm⟩ := Tryz.laysM144.s1_3 W hsh
  have hL' : laidMet Tryz.prog laidQl W := hL
  refine law_calls (oLaw6 m) (goodQ (by kernel_rfl)) (args := [rqA l0, .int .i64 l1]) (sLaw6_true l0 l1 hk) (E := oldE W) (fun b o hb => hb) (globQA hL' hsh hm) rfl (fun i c v hi hv => ?_) (fun c hc => ?_)
  · match i, hi with
    | 0, hi => simp only [List.getElem?_cons_zero, Option.some.injEq] at hi; subst hi; simp at hv; subst hv; exact h0
    | 1, hi => simp only [List.getElem?_cons_succ, List.getElem?_cons_zero, Option.some.injEq] at hi; subst hi; simp at hv; subst hv; exact h1
    | i + 2, hi => simp at hi
  · simp only [List.mem_cons, List.not_mem_nil, or_false] at hc
    rcases hc with rfl | rfl <;> rfl

set_option maxRecDepth 100000 in
theorem contract (H : Type) (enc : TypeId × Value → H) (W : World) (base : Nat) (args : Array Value) (ds gs : List (DataW H)) (before : List MemPlace)
    (hval : ∀ (j : Nat) t v, Tryz.f6.params[j]? = some t → args[j]? = some v → Value.okWide Tryz.prog W .any base t v)
    (hW : DataW.Whole enc Tryz.prog Tryz.f6.params.toList Rows.requestNestsSpec.vars false W args.toList ds gs before) (hL : laidMetH Tryz.prog Rows.requestNestsUptoRow.laid W) (hsh : W.ShapedOpen Tryz.prog) (hkk : Rows.uptoSmall H (ds ++ gs) = true) :
    Calls Tryz.prog 6 args W fun e W' => ∃ v, e = .returned v ∧ Rows.requestNestsSpec.post enc Tryz.prog Tryz.f6 false true false false W args v W' := by
  have hW' := hW
  obtain ⟨p, q, hA0, hV, rfl, hfz, hnd⟩ := hW
  have hA : DataW.TrodAll enc Tryz.prog W 0 (fun _ => true) true Tryz.f6.params.toList args.toList ds p := hA0
  rw [Tryz.params6] at hA hval
  obtain ⟨v0, vs0, d0, ds0, p0, q0, hargs, rfl, rfl, h0, r0⟩ := trodAll_cons hA
  obtain ⟨v1, vs1, d1, ds1, p1, q1, rfl, rfl, rfl, h1, r1⟩ := trodAll_cons r0
  obtain ⟨rfl, rfl, rfl⟩ := trodAll_nil r1
  obtain rfl : args = #[v0, v1] := by cases args; simp_all
  obtain ⟨rfl, rfl⟩ := trodVars_none hV
  obtain ⟨l0, g0, k0⟩ := open_agg rRqN (is_agg Tryz.underlying26 (hval 0 26 v0 rfl rfl)) h0
  obtain ⟨l1, g1, _⟩ := open_one rIntN (one_int Tryz.underlying3 (hval 1 3 v1 rfl rfl)) h1
  have hk : ∀ l ∈ l0.labels, lbFit 0 l := fun l hl => by
    have h1 := k0.lb l hl
    have h2 := Bulks.part_le (d := d0) (l := [d0, d1] ++ []) (by simp)
    have h3 := Bulks.bound hkk
    exact ⟨by have := h1.1; omega, by have := h1.2.1; unfold i64W; omega, by have := h1.2.2; unfold i64W; omega⟩
  clear hA0
  simp only [List.append_nil] at hW'
  refine (law_walk l0 l1 g0 g1 hk hL hsh).mono fun e W' ⟨he, hb⟩ => ?_
  subst he
  exact ⟨_, rfl, law_post hW' rfl rfl rfl Tryz.underlying4 (by kernel_rfl) (by intro t ht; revert t; exact of_decide_eq_true (by kernel_rfl)) hb⟩

noncomputable abbrev wit (os : Os) : World := World.laidAll Tryz.prog os Rows.requestNestsUptoRow.laid
theorem laid_met (os : Os) : laidMet Tryz.prog Rows.requestNestsUptoRow.laid ((wit os).forCall (fun _ _ => 0) ⟨#[], #[.agg #[.string ⟨#[]⟩, .slice none 0 0, .slice none 0 0, .int .i64 0, .int .i64 0], .int .i64 0], []⟩).memory :=
  laidMet_laidAll _ (by kernel_rfl) (by kernel_rfl)
theorem reads (os : Os) {H : Type} (enc : TypeId × Value → H) : ∃ places, DataW.whole enc Tryz.prog ((wit os).forCall (fun _ _ => 0) ⟨#[], #[.agg #[.string ⟨#[]⟩, .slice none 0 0, .slice none 0 0, .int .i64 0, .int .i64 0], .int .i64 0], []⟩).memory Tryz.f6.params.toList Rows.requestNestsSpec.vars false #[Value.agg #[.string ⟨#[]⟩, .slice none 0 0, .slice none 0 0, .int .i64 0, .int .i64 0], .int .i64 0].toList 8 = some ([.agg [.lit (.string []), .nil, .nil, .lit (.int .i64 0), .lit (.int .i64 0)], .lit (.int .i64 0)], [], places) :=
  ⟨[], by kernel_rfl⟩

set_option maxRecDepth 100000 in
theorem lifted (os : Os) (started : os.Started) (H : Type) (enc : TypeId × Value → H) (F : Stop.Interp) :
    ReturnsInHanded {} Tryz.checked os 6 .any ((Rows.OpenSpec.upto Rows.requestNestsSpec).preRow enc Tryz.prog Tryz.f6 Rows.requestNestsUptoRow.domain false Rows.requestNestsUptoRow.laid) (((Rows.OpenSpec.upto Rows.requestNestsSpec).at F).post enc Tryz.prog Tryz.f6 false true false false) := by
  obtain ⟨places, hx⟩ := reads os enc
  refine returnsInHanded_of_row (C := Tryz.checked) (s := Rows.OpenSpec.upto Rows.requestNestsSpec) own started (by kernel_rfl) Tryz.func6
    (witness_row_shaped (enc := enc) (C := Tryz.checked) (wit os) #[.agg #[.string ⟨#[]⟩, .slice none 0 0, .slice none 0 0, .int .i64 0, .int .i64 0], .int .i64 0] (World.laidAll_os _ _ _) (World.shaped_of_ZipB (by kernel_rfl) (by kernel_rfl)) (by kernel_rfl)
      (OpenSpec.preRow_of_cond 8 hx (by kernel_rfl) (fun k hk => by cases hk; kernel_rfl) (by kernel_rfl) (laid_met os))) ?_
  intro W base args ds gs before hval hW _ hcond _ hL hsh _
  exact contract H enc W base args ds gs before hval hW hL hsh (hcond _ rfl)

theorem said : Rows.RequestNestsUptoSaid :=
  OpenClaim.holds_of_cond 6 Tryz.f6 rfl rfl rfl rfl rfl rfl rfl ⟨rfl, rfl, rfl, rfl, rfl⟩ rfl rfl rfl rfl rfl (by kernel_rfl) Tryz.func6 (by kernel_rfl)
    (of_decide_eq_true (by kernel_rfl)) (by unfold Func.isWrapper; first | (rw [if_pos (by decide +kernel)]; kernel_rfl) | (rw [if_neg (by decide +kernel)]; exact ⟨rfl, rfl⟩))
    (fun os started H enc _ F => by rw [OpenClaim.pre_eq_preRow]; exact lifted os started H enc F)

theorem plain (f : FuncId) (fn : Func) (hf : Tryz.pinned.checked.prog.funcNamed "asof/asoflaw24.RequestNests" = some f) (hfn : Tryz.pinned.checked.prog.funcs[f]? = some fn) :
    true = Tryz.pinned.checked.prog.looks [] ∧ ∀ (j : Nat) t, fn.params[j]? = some t → Tryz.pinned.checked.prog.wantsStandIn t = false := by
  obtain rfl : f = 6 := Option.some.inj ((show Tryz.prog.funcNamed "asof/asoflaw24.RequestNests" = some 6 by kernel_rfl).symm.trans hf) |>.symm
  obtain rfl : fn = Tryz.f6 := (Option.some.inj (Tryz.func6.symm.trans hfn)).symm
  refine ⟨by kernel_rfl, fun j t ht => ?_⟩
  rw [Tryz.params6] at ht
  have hm : t ∈ [26, 3] := by simpa using Array.mem_of_getElem? ht
  have hall : ([26, 3].all fun u => !Tryz.prog.wantsStandIn u) = true := by kernel_rfl
  exact (show Tryz.prog.wantsStandIn t = false by simpa using List.all_eq_true.1 hall t hm)

theorem card : Rows.RequestNestsUptoCardSaid :=
  Claim7.holds_tied_plain_at .later [] _ _ _ _ said (fun _ h => by cases h) (by kernel_rfl) (fun _ h => by cases h) requestNestsUpto_row_tie rfl ⟨rfl, rfl⟩ (by kernel_rfl) rfl plain (by kernel_rfl)
end Go.Proofs.YtfcdefnkhkijaaaGreatDoor.requestNests
