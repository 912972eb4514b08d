/-
  Decimals are printed, encoded and ordered as their numbers are.
  Conditions: none.
-/
import Derived.Test.YtpijifiekgbjnaaDoorPart5
import Derived.Test.YtpijifiekgbjnaaDoorPart6
import Derived.Test.YtpijifiekgbjnaaDoorCards
import Derived.Test.YtpijifiekgbjnaaDoorTie
import Derived.SevenTiedAt
namespace Go.Proofs.YtpijifiekgbjnaaDoor.valuesNumbers
open Go.ChangeShapes Go.WideShapes Go.ChangeAt Go.RowKit Go.ChangeMaps Go.Abs

theorem own : ownKnob Tryd.prog.godebug = none := by kernel_rfl
theorem law_walk {W : World} (l0 : Int) (l1 : Int) {v0 v1 : Value} (h0 : Rep (oldE W) W (.int .i64 l0) v0) (h1 : Rep (oldE W) W (.int .i64 l1) v1) (n0 : i64Ok l0) (n1 : i64Ok l1) (hL : laidMetH Tryd.prog Rows.valuesNumbersRow.laid W) (hsh : W.ShapedOpen Tryd.prog) : Calls Tryd.prog 4 #[v0, v1] W fun e w' => e = .returned (.bool true) ∧ Below W.heap.size W w' := by
  obtain ⟨m, hm⟩ := Tryd.laysM144.s1_3 W hsh
  have hL' : laidMet Tryd.prog laid5 W := hL
  refine law_calls (o4 m) (goodZ (by kernel_rfl)) (args := [.int .i64 l0, .int .i64 l1]) (s4_true l0 l1 n0 n1) (E := oldE W) (fun b o hb => hb) (glob5A hL' hsh hm) rfl (fun i c v hi hv => ?_) (fun c hc => ?_)
  · match i, hi with
    | 0, hi => simp only [List.getElem?_cons_zero, Option.some.injEq] at hi; subst hi; simp at hv; subst hv; exact h0
    | 1, hi => simp only [List.getElem?_cons_succ, List.getElem?_cons_zero, Option.some.injEq] at hi; subst hi; simp at hv; subst hv; exact h1
    | i + 2, hi => simp at hi
  · simp only [List.mem_cons, List.not_mem_nil, or_false] at hc
    rcases hc with rfl | rfl <;> rfl

set_option maxRecDepth 100000 in
theorem contract (H : Type) (enc : TypeId × Value → H) (W : World) (base : Nat) (args : Array Value) (ds gs : List (DataW H)) (before : List MemPlace)
    (hval : ∀ (j : Nat) t v, Tryd.f4.params[j]? = some t → args[j]? = some v → Value.okWide Tryd.prog W .any base t v)
    (hW : DataW.Whole enc Tryd.prog Tryd.f4.params.toList Rows.valuesNumbersSpec.vars false W args.toList ds gs before) (hL : laidMetH Tryd.prog Rows.valuesNumbersRow.laid W) (hsh : W.ShapedOpen Tryd.prog) :
    Calls Tryd.prog 4 args W fun e W' => ∃ v, e = .returned v ∧ Rows.valuesNumbersSpec.post enc Tryd.prog Tryd.f4 false true false false W args v W' := by
  have hW' := hW
  obtain ⟨p, q, hA0, hV, rfl, hfz, hnd⟩ := hW
  have hA : DataW.TrodAll enc Tryd.prog W 0 (fun _ => true) true Tryd.f4.params.toList args.toList ds p := hA0
  rw [Tryd.params4] at hA hval
  obtain ⟨v0, vs0, d0, ds0, p0, q0, hargs, rfl, rfl, h0, r0⟩ := trodAll_cons hA
  obtain ⟨v1, vs1, d1, ds1, p1, q1, rfl, rfl, rfl, h1, r1⟩ := trodAll_cons r0
  obtain ⟨rfl, rfl, rfl⟩ := trodAll_nil r1
  obtain rfl : args = #[v0, v1] := by cases args; simp_all
  obtain ⟨rfl, rfl⟩ := trodVars_none hV
  obtain ⟨l0, g0, n0⟩ := open_intA Tryd.underlying3 (hval 0 3 v0 rfl rfl) h0
  obtain ⟨l1, g1, n1⟩ := open_intA Tryd.underlying3 (hval 1 3 v1 rfl rfl) h1
  clear hA0
  simp only [List.append_nil] at hW'
  refine (law_walk l0 l1 g0 g1 n0 n1 hL hsh).mono fun e W' ⟨he, hb⟩ => ?_
  subst he
  exact ⟨_, rfl, law_post hW' rfl rfl rfl Tryd.underlying4 (by kernel_rfl) (by intro t ht; revert t; exact of_decide_eq_true (by kernel_rfl)) hb⟩

noncomputable abbrev wit (os : Os) : World := World.laidAll Tryd.prog os Rows.valuesNumbersRow.laid
theorem laid_met (os : Os) : laidMet Tryd.prog Rows.valuesNumbersRow.laid ((wit os).forCall (fun _ _ => 0) ⟨#[], #[.int .i64 0, .int .i64 0], []⟩).memory :=
  laidMet_laidAll _ (by kernel_rfl) (by kernel_rfl)
theorem reads (os : Os) {H : Type} (enc : TypeId × Value → H) : ∃ places, DataW.whole enc Tryd.prog ((wit os).forCall (fun _ _ => 0) ⟨#[], #[.int .i64 0, .int .i64 0], []⟩).memory Tryd.f4.params.toList Rows.valuesNumbersSpec.vars false #[Value.int .i64 0, .int .i64 0].toList 8 = some ([.lit (.int .i64 0), .lit (.int .i64 0)], [], places) :=
  ⟨[], by kernel_rfl⟩

set_option maxRecDepth 100000 in
theorem lifted (os : Os) (started : os.Started) (H : Type) (enc : TypeId × Value → H) (F : Stop.Interp) :
    ReturnsInHanded {} Tryd.checked os 4 .any ((OpenSpec.ofChange Rows.valuesNumbersSpec).preRow enc Tryd.prog Tryd.f4 Rows.valuesNumbersRow.domain false Rows.valuesNumbersRow.laid) (((OpenSpec.ofChange Rows.valuesNumbersSpec).at F).post enc Tryd.prog Tryd.f4 false true false false) := by
  obtain ⟨places, hx⟩ := reads os enc
  refine returnsInHanded_of_row (C := Tryd.checked) (s := OpenSpec.ofChange Rows.valuesNumbersSpec) own started (by kernel_rfl) Tryd.func4
    (witness_row_shaped (enc := enc) (C := Tryd.checked) (wit os) #[.int .i64 0, .int .i64 0] (World.laidAll_os _ _ _) (World.shaped_of_ZipB (by kernel_rfl) (by kernel_rfl)) (by kernel_rfl)
      (OpenSpec.preRow_of_cond 8 hx (by kernel_rfl) (fun k hk => by cases hk) (by kernel_rfl) (laid_met os))) ?_
  intro W base args ds gs before hval hW _ _ _ hL hsh _
  exact contract H enc W base args ds gs before hval hW hL hsh

theorem said : Rows.ValuesNumbersSaid :=
  OpenClaim.holds_of_cond 4 Tryd.f4 rfl rfl rfl rfl rfl rfl rfl ⟨rfl, rfl, rfl, rfl, rfl⟩ rfl rfl rfl rfl rfl (by kernel_rfl) Tryd.func4 (by kernel_rfl)
    (of_decide_eq_true (by kernel_rfl)) (by unfold Func.isWrapper; first | (rw [if_pos (by decide +kernel)]; kernel_rfl) | (rw [if_neg (by decide +kernel)]; exact ⟨rfl, rfl⟩))
    (fun os started H enc _ F => by rw [OpenClaim.pre_eq_preRow]; exact lifted os started H enc F)

theorem plain (f : FuncId) (fn : Func) (hf : Tryd.pinned.checked.prog.funcNamed "asof/asoflaw05.ValuesNumbers" = some f) (hfn : Tryd.pinned.checked.prog.funcs[f]? = some fn) :
    true = Tryd.pinned.checked.prog.looks [] ∧ ∀ (j : Nat) t, fn.params[j]? = some t → Tryd.pinned.checked.prog.wantsStandIn t = false := by
  obtain rfl : f = 4 := Option.some.inj ((show Tryd.prog.funcNamed "asof/asoflaw05.ValuesNumbers" = some 4 by kernel_rfl).symm.trans hf) |>.symm
  obtain rfl : fn = Tryd.f4 := (Option.some.inj (Tryd.func4.symm.trans hfn)).symm
  refine ⟨by kernel_rfl, fun j t ht => ?_⟩
  rw [Tryd.params4] at ht
  have hm : t ∈ [3, 3] := by simpa using Array.mem_of_getElem? ht
  have hall : ([3, 3].all fun u => !Tryd.prog.wantsStandIn u) = true := by kernel_rfl
  exact (show Tryd.prog.wantsStandIn t = false by simpa using List.all_eq_true.1 hall t hm)

theorem card : Rows.ValuesNumbersCardSaid :=
  Claim7.holds_tied_plain_at .later [] _ _ _ _ said (fun _ h => by cases h) (by kernel_rfl) (fun _ h => by cases h) valuesNumbers_row_tie rfl ⟨rfl, rfl⟩ (by kernel_rfl) rfl plain (by kernel_rfl)
end Go.Proofs.YtpijifiekgbjnaaDoor.valuesNumbers
