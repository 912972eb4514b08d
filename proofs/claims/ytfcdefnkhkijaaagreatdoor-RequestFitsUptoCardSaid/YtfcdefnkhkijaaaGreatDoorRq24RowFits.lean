/-
  RequestFits: for every catalogue, request, feature and table the law answers true, and its arguments read as before, where what is read is of bulk at most 1048576.
  Conditions: none.
-/
import Derived.Test.YtfcdefnkhkijaaaGreatDoorPart8
import Derived.Test.YtfcdefnkhkijaaaGreatDoorCards
import Derived.Test.YtfcdefnkhkijaaaGreatDoorTie
import Derived.SevenTiedAt
namespace Go.Proofs.YtfcdefnkhkijaaaGreatDoor.requestFits
open Go.ChangeShapes Go.WideShapes Go.ChangeAt Go.RowKit Go.ChangeMaps Go.Abs

theorem own : ownKnob Tryz.prog.godebug = none := by kernel_rfl
theorem law_walk {W : World} (l0 : CtI) (l1 : Rq) (l2 : Ft) {v0 v1 v2 v3 : Value} (h0 : Rep (oldE W) W (.agg (ctI l0)) v0) (h1 : Rep (oldE W) W (.agg (rqA l1).cells) v1) (h2 : Rep (oldE W) W (.agg (ftA l2).cells) v2) (h3 : Rep (oldE W) W (.agg (tbA ()).cells) v3) (hk : keysOk l1.labels = true) (hc : ctOk l0) (hL : laidMetH Tryz.prog Rows.requestFitsUptoRow.laid W) (hsh : W.ShapedOpen Tryz.prog) : Calls Tryz.prog 5 #[v0, v1, v2, v3] W fun e w' => e = .returned (.bool true) ∧ Below W.heap.size W w' := by
  obtain ⟨m, hm⟩ := Tryz.laysM144.s1_3 W hsh
  have hL' : laidMet Tryz.prog laidQl W := hL
  refine law_calls (oLaw5 m) (goodQ (by kernel_rfl)) (args := [.agg (ctI l0), rqA l1, ftA l2, tb4]) (sLaw5_true l0 l1 l2 hk hc) (E := oldE W) (fun b o hb => hb) (globQA hL' hsh hm) rfl (fun i c v hi hv => ?_) (fun c hc => ?_)
  · match i, hi with
    | 0, hi => simp only [List.getElem?_cons_zero, Option.some.injEq] at hi; subst hi; simp at hv; subst hv; exact h0
    | 1, hi => simp only [List.getElem?_cons_succ, List.getElem?_cons_zero, Option.some.injEq] at hi; subst hi; simp at hv; subst hv; exact h1
    | 2, hi => simp only [List.getElem?_cons_succ, List.getElem?_cons_zero, Option.some.injEq] at hi; subst hi; simp at hv; subst hv; exact h2
    | 3, hi => simp only [List.getElem?_cons_succ, List.getElem?_cons_zero, Option.some.injEq] at hi; subst hi; simp at hv; subst hv; exact h3
    | i + 4, hi => simp at hi
  · simp only [List.mem_cons, List.not_mem_nil, or_false] at hc
    rcases hc with rfl | rfl | rfl | rfl <;> rfl

set_option maxRecDepth 100000 in
theorem contract (H : Type) (enc : TypeId × Value → H) (W : World) (base : Nat) (args : Array Value) (ds gs : List (DataW H)) (before : List MemPlace)
    (hval : ∀ (j : Nat) t v, Tryz.f5.params[j]? = some t → args[j]? = some v → Value.okWide Tryz.prog W .any base t v)
    (hW : DataW.Whole enc Tryz.prog Tryz.f5.params.toList Rows.requestFitsSpec.vars false W args.toList ds gs before) (hL : laidMetH Tryz.prog Rows.requestFitsUptoRow.laid W) (hsh : W.ShapedOpen Tryz.prog) (hkk : Rows.uptoSmall H (ds ++ gs) = true) :
    Calls Tryz.prog 5 args W fun e W' => ∃ v, e = .returned v ∧ Rows.requestFitsSpec.post enc Tryz.prog Tryz.f5 false true false false W args v W' := by
  have hW' := hW
  obtain ⟨p, q, hA0, hV, rfl, hfz, hnd⟩ := hW
  have hA : DataW.TrodAll enc Tryz.prog W 0 (fun _ => true) true Tryz.f5.params.toList args.toList ds p := hA0
  rw [Tryz.params5] at hA hval
  obtain ⟨v0, vs0, d0, ds0, p0, q0, hargs, rfl, rfl, h0, r0⟩ := trodAll_cons hA
  obtain ⟨v1, vs1, d1, ds1, p1, q1, rfl, rfl, rfl, h1, r1⟩ := trodAll_cons r0
  obtain ⟨v2, vs2, d2, ds2, p2, q2, rfl, rfl, rfl, h2, r2⟩ := trodAll_cons r1
  obtain ⟨v3, vs3, d3, ds3, p3, q3, rfl, rfl, rfl, h3, r3⟩ := trodAll_cons r2
  obtain ⟨rfl, rfl, rfl⟩ := trodAll_nil r3
  obtain rfl : args = #[v0, v1, v2, v3] := by cases args; simp_all
  obtain ⟨rfl, rfl⟩ := trodVars_none hV
  obtain ⟨l0, g0, k0⟩ := open_agg rCtN (is_agg Tryz.underlying38 (hval 0 38 v0 rfl rfl)) h0
  obtain ⟨l1, g1, k1⟩ := open_agg rRq (is_agg Tryz.underlying26 (hval 1 26 v1 rfl rfl)) h1
  obtain ⟨l2, g2, _⟩ := open_agg rFt (is_agg Tryz.underlying52 (hval 2 52 v2 rfl rfl)) h2
  obtain ⟨l3, g3, _⟩ := open_agg rTb (is_agg Tryz.underlying55 (hval 3 55 v3 rfl rfl)) h3
  have hc : ctOk l0 := by have := Bulks.part_le (d := d0) (l := [d0, d1, d2, d3] ++ []) (by simp); have := Bulks.bound hkk; exact ⟨by have := k0.1; omega, by have := k0.2; omega⟩
  clear hA0
  simp only [List.append_nil] at hW'
  refine (law_walk l0 l1 l2 g0 g1 g2 g3 k1 hc hL hsh).mono fun e W' ⟨he, hb⟩ => ?_
  subst he
  exact ⟨_, rfl, law_post hW' rfl rfl rfl Tryz.underlying4 (by kernel_rfl) (by intro t ht; revert t; exact of_decide_eq_true (by kernel_rfl)) hb⟩

abbrev wArgs : Array Value := #[.agg #[.slice none 0 0, .slice none 0 0, .slice none 0 0, .slice none 0 0], .agg #[.string ⟨#[]⟩, .slice none 0 0, .slice none 0 0, .int .i64 0, .int .i64 0], .agg #[.string ⟨#[]⟩, .string ⟨#[]⟩, .int .i64 0, .slice none 0 0, .string ⟨#[]⟩, .int .i64 0, .string ⟨#[]⟩, .string ⟨#[]⟩, .string ⟨#[]⟩, .int .i64 0, .int .i64 0, .string ⟨#[]⟩, .slice none 0 0, .int .i64 0, .int .i64 0, .int .i64 0, .slice none 0 0, .int .i64 0], .agg #[.string ⟨#[]⟩, .string ⟨#[]⟩, .slice none 0 0, .int .i64 0]]
abbrev wData {H : Type} : List (DataW H) := [.agg [.nil, .nil, .nil, .nil], .agg [.lit (.string []), .nil, .nil, .lit (.int .i64 0), .lit (.int .i64 0)], .agg [.lit (.string []), .lit (.string []), .agg [.lit (.int .i64 0), .nil, .lit (.string [])], .agg [.lit (.int .i64 0), .lit (.string []), .lit (.string []), .lit (.string []), .agg [.lit (.int .i64 0), .lit (.int .i64 0), .lit (.string [])], .nil, .lit (.int .i64 0), .agg [.lit (.int .i64 0), .lit (.int .i64 0)], .nil], .lit (.int .i64 0)], .agg [.lit (.string []), .lit (.string []), .nil, .lit (.int .i64 0)]]
noncomputable abbrev wit (os : Os) : World := World.laidAll Tryz.prog os Rows.requestFitsUptoRow.laid
theorem laid_met (os : Os) : laidMet Tryz.prog Rows.requestFitsUptoRow.laid ((wit os).forCall (fun _ _ => 0) ⟨#[], wArgs, []⟩).memory :=
  laidMet_laidAll _ (by kernel_rfl) (by kernel_rfl)
theorem reads (os : Os) {H : Type} (enc : TypeId × Value → H) : ∃ places, DataW.whole enc Tryz.prog ((wit os).forCall (fun _ _ => 0) ⟨#[], wArgs, []⟩).memory Tryz.f5.params.toList Rows.requestFitsSpec.vars false wArgs.toList 8 = some (wData, [], places) :=
  ⟨[], by kernel_rfl⟩

set_option maxRecDepth 100000 in
theorem lifted (os : Os) (started : os.Started) (H : Type) (enc : TypeId × Value → H) (F : Stop.Interp) :
    ReturnsInHanded {} Tryz.checked os 5 .any ((Rows.OpenSpec.upto Rows.requestFitsSpec).preRow enc Tryz.prog Tryz.f5 Rows.requestFitsUptoRow.domain false Rows.requestFitsUptoRow.laid) (((Rows.OpenSpec.upto Rows.requestFitsSpec).at F).post enc Tryz.prog Tryz.f5 false true false false) := by
  obtain ⟨places, hx⟩ := reads os enc
  refine returnsInHanded_of_row (C := Tryz.checked) (s := Rows.OpenSpec.upto Rows.requestFitsSpec) own started (by kernel_rfl) Tryz.func5
    (witness_row_shaped (enc := enc) (C := Tryz.checked) (wit os) wArgs (World.laidAll_os _ _ _) (World.shaped_of_ZipB (by kernel_rfl) (by kernel_rfl)) (by kernel_rfl)
      (OpenSpec.preRow_of_cond 8 hx (by kernel_rfl) (fun k hk => by cases hk; kernel_rfl) (by kernel_rfl) (laid_met os))) ?_
  intro W base args ds gs before hval hW _ hcond _ hL hsh _
  exact contract H enc W base args ds gs before hval hW hL hsh (hcond _ rfl)

theorem said : Rows.RequestFitsUptoSaid :=
  OpenClaim.holds_of_cond 5 Tryz.f5 rfl rfl rfl rfl rfl rfl rfl ⟨rfl, rfl, rfl, rfl, rfl⟩ rfl rfl rfl rfl rfl (by kernel_rfl) Tryz.func5 (by kernel_rfl)
    (of_decide_eq_true (by kernel_rfl)) (by unfold Func.isWrapper; first | (rw [if_pos (by decide +kernel)]; kernel_rfl) | (rw [if_neg (by decide +kernel)]; exact ⟨rfl, rfl⟩))
    (fun os started H enc _ F => by rw [OpenClaim.pre_eq_preRow]; exact lifted os started H enc F)

theorem plain (f : FuncId) (fn : Func) (hf : Tryz.pinned.checked.prog.funcNamed "asof/asoflaw24.RequestFits" = some f) (hfn : Tryz.pinned.checked.prog.funcs[f]? = some fn) :
    true = Tryz.pinned.checked.prog.looks [] ∧ ∀ (j : Nat) t, fn.params[j]? = some t → Tryz.pinned.checked.prog.wantsStandIn t = false := by
  obtain rfl : f = 5 := Option.some.inj ((show Tryz.prog.funcNamed "asof/asoflaw24.RequestFits" = some 5 by kernel_rfl).symm.trans hf) |>.symm
  obtain rfl : fn = Tryz.f5 := (Option.some.inj (Tryz.func5.symm.trans hfn)).symm
  refine ⟨by kernel_rfl, fun j t ht => ?_⟩
  rw [Tryz.params5] at ht
  have hm : t ∈ [38, 26, 52, 55] := by simpa using Array.mem_of_getElem? ht
  have hall : ([38, 26, 52, 55].all fun u => !Tryz.prog.wantsStandIn u) = true := by kernel_rfl
  exact (show Tryz.prog.wantsStandIn t = false by simpa using List.all_eq_true.1 hall t hm)

theorem card : Rows.RequestFitsUptoCardSaid :=
  Claim7.holds_tied_plain_at .later [] _ _ _ _ said (fun _ h => by cases h) (by kernel_rfl) (fun _ h => by cases h) requestFitsUpto_row_tie rfl ⟨rfl, rfl⟩ (by kernel_rfl) rfl plain (by kernel_rfl)
end Go.Proofs.YtfcdefnkhkijaaaGreatDoor.requestFits
