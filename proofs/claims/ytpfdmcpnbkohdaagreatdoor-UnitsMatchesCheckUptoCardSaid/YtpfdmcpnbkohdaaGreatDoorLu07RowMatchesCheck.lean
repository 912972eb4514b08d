/-
  The law of units' Check and Normal against the specification: true for every list of factors, where what is read is of bulk at most 1048576.
  Conditions: none.
-/
import Derived.Test.YtpfdmcpnbkohdaaGreatDoorPart8
import Derived.Test.YtpfdmcpnbkohdaaGreatDoorPart9
import Derived.Test.YtpfdmcpnbkohdaaGreatDoorCards
import Derived.Test.YtpfdmcpnbkohdaaGreatDoorTie
import Derived.SevenTiedAt
namespace Go.Proofs.YtpfdmcpnbkohdaaGreatDoor.unitsMatchesCheck
open Go.ChangeShapes Go.WideShapes Go.ChangeAt Go.RowKit Go.ChangeMaps Go.Abs

theorem own : ownKnob Tryz.prog.godebug = none := by kernel_rfl
theorem law_walk {W : World} (l0 : List Fac) {v0 : Value} (h0 : Rep (oldE W) W (.sl 2 (facsL l0) .no) v0) (n0 : chkOk l0) (hL : laidMetH Tryz.prog Rows.unitsMatchesCheckUptoRow.laid W) (hsh : W.ShapedOpen Tryz.prog) : Calls Tryz.prog 3 #[v0] W fun e w' => e = .returned (.bool true) ∧ Below W.heap.size W w' := by
  obtain ⟨m, hm⟩ := Tryz.laysM143.s1_3 W hsh
  have hL' : laidMet Tryz.prog laid7 W := hL
  refine law_calls (o3 m) (goodU (by kernel_rfl)) (args := [.sl 2 (facsL l0) .no]) (s3_row l0 n0) (E := oldE W) (fun b o hb => hb) (glob7A hL' hsh hm) rfl (fun i c v hi hv => ?_) (fun c hc => ?_)
  · match i, hi with
    | 0, hi => simp only [List.getElem?_cons_zero, Option.some.injEq] at hi; subst hi; simp at hv; subst hv; exact h0
    | i + 1, hi => simp at hi
  · simp only [List.mem_cons, List.not_mem_nil, or_false] at hc
    rcases hc with rfl <;> rfl

set_option maxRecDepth 100000 in
theorem contract (H : Type) (enc : TypeId × Value → H) (W : World) (base : Nat) (args : Array Value) (ds gs : List (DataW H)) (before : List MemPlace)
    (hval : ∀ (j : Nat) t v, Tryz.f3.params[j]? = some t → args[j]? = some v → Value.okWide Tryz.prog W .any base t v)
    (hW : DataW.Whole enc Tryz.prog Tryz.f3.params.toList Rows.unitsMatchesCheckSpec.vars false W args.toList ds gs before) (hL : laidMetH Tryz.prog Rows.unitsMatchesCheckUptoRow.laid W) (hsh : W.ShapedOpen Tryz.prog) (hk : Rows.uptoSmall H (ds ++ gs) = true) :
    Calls Tryz.prog 3 args W fun e W' => ∃ v, e = .returned v ∧ Rows.unitsMatchesCheckSpec.post enc Tryz.prog Tryz.f3 false true false false W args v W' := by
  have hW' := hW
  obtain ⟨p, q, hA0, hV, rfl, hfz, hnd⟩ := hW
  have hA : DataW.TrodAll enc Tryz.prog W 0 (fun _ => true) true Tryz.f3.params.toList args.toList ds p := hA0
  rw [Tryz.params3] at hA hval
  obtain ⟨v0, vs0, d0, ds0, p0, q0, hargs, rfl, rfl, h0, r0⟩ := trodAll_cons hA
  obtain ⟨rfl, rfl, rfl⟩ := trodAll_nil r0
  obtain rfl : args = #[v0] := by cases args; simp_all
  obtain ⟨rfl, rfl⟩ := trodVars_none hV
  obtain ⟨l0, g0, i0, b0⟩ := open_facsB (hval 0 22 v0 rfl rfl) h0
  have n0 : chkOk l0 := by have := Bulks.part_le (d := d0) (l := [d0] ++ []) (by simp); have := Bulks.bound hk; exact ⟨len_small (by omega), i0⟩
  clear hA0
  simp only [List.append_nil] at hW'
  refine (law_walk l0 g0 n0 hL hsh).mono fun e W' ⟨he, hb⟩ => ?_
  subst he
  exact ⟨_, rfl, law_post hW' rfl rfl rfl Tryz.underlying4 (by kernel_rfl) (by intro t ht; revert t; exact of_decide_eq_true (by kernel_rfl)) hb⟩

noncomputable abbrev wit (os : Os) : World := World.laidAll Tryz.prog os Rows.unitsMatchesCheckUptoRow.laid
theorem laid_met (os : Os) : laidMet Tryz.prog Rows.unitsMatchesCheckUptoRow.laid ((wit os).forCall (fun _ _ => 0) ⟨#[], #[.slice none 0 0], []⟩).memory :=
  laidMet_laidAll _ (by kernel_rfl) (by kernel_rfl)
theorem reads (os : Os) {H : Type} (enc : TypeId × Value → H) : ∃ places, DataW.whole enc Tryz.prog ((wit os).forCall (fun _ _ => 0) ⟨#[], #[.slice none 0 0], []⟩).memory Tryz.f3.params.toList Rows.unitsMatchesCheckSpec.vars false #[Value.slice none 0 0].toList 8 = some ([.nil], [], places) :=
  ⟨[], by kernel_rfl⟩

set_option maxRecDepth 100000 in
theorem lifted (os : Os) (started : os.Started) (H : Type) (enc : TypeId × Value → H) (F : Stop.Interp) :
    ReturnsInHanded {} Tryz.checked os 3 .any ((Rows.OpenSpec.upto Rows.unitsMatchesCheckSpec).preRow enc Tryz.prog Tryz.f3 Rows.unitsMatchesCheckUptoRow.domain false Rows.unitsMatchesCheckUptoRow.laid) (((Rows.OpenSpec.upto Rows.unitsMatchesCheckSpec).at F).post enc Tryz.prog Tryz.f3 false true false false) := by
  obtain ⟨places, hx⟩ := reads os enc
  refine returnsInHanded_of_row (C := Tryz.checked) (s := Rows.OpenSpec.upto Rows.unitsMatchesCheckSpec) own started (by kernel_rfl) Tryz.func3
    (witness_row_shaped (enc := enc) (C := Tryz.checked) (wit os) #[.slice none 0 0] (World.laidAll_os _ _ _) (World.shaped_of_ZipB (by kernel_rfl) (by kernel_rfl)) (by kernel_rfl)
      (OpenSpec.preRow_of_cond 8 hx (by kernel_rfl) (fun k hk => by cases hk; kernel_rfl) (by kernel_rfl) (laid_met os))) ?_
  intro W base args ds gs before hval hW _ hcond _ hL hsh _
  exact contract H enc W base args ds gs before hval hW hL hsh (hcond _ rfl)

theorem said : Rows.UnitsMatchesCheckUptoSaid :=
  OpenClaim.holds_of_cond 3 Tryz.f3 rfl rfl rfl rfl rfl rfl rfl ⟨rfl, rfl, rfl, rfl, rfl⟩ rfl rfl rfl rfl rfl (by kernel_rfl) Tryz.func3 (by kernel_rfl)
    (of_decide_eq_true (by kernel_rfl)) (by unfold Func.isWrapper; first | (rw [if_pos (by decide +kernel)]; kernel_rfl) | (rw [if_neg (by decide +kernel)]; exact ⟨rfl, rfl⟩))
    (fun os started H enc _ F => by rw [OpenClaim.pre_eq_preRow]; exact lifted os started H enc F)

theorem plain (f : FuncId) (fn : Func) (hf : Tryz.pinned.checked.prog.funcNamed "asof/asoflaw07.UnitsMatchesCheck" = some f) (hfn : Tryz.pinned.checked.prog.funcs[f]? = some fn) :
    true = Tryz.pinned.checked.prog.looks [] ∧ ∀ (j : Nat) t, fn.params[j]? = some t → Tryz.pinned.checked.prog.wantsStandIn t = false := by
  obtain rfl : f = 3 := Option.some.inj ((show Tryz.prog.funcNamed "asof/asoflaw07.UnitsMatchesCheck" = some 3 by kernel_rfl).symm.trans hf) |>.symm
  obtain rfl : fn = Tryz.f3 := (Option.some.inj (Tryz.func3.symm.trans hfn)).symm
  refine ⟨by kernel_rfl, fun j t ht => ?_⟩
  rw [Tryz.params3] at ht
  have hm : t ∈ [22] := by simpa using Array.mem_of_getElem? ht
  have hall : ([22].all fun u => !Tryz.prog.wantsStandIn u) = true := by kernel_rfl
  exact (show Tryz.prog.wantsStandIn t = false by simpa using List.all_eq_true.1 hall t hm)

theorem card : Rows.UnitsMatchesCheckUptoCardSaid :=
  Claim7.holds_tied_plain_at .later [] _ _ _ _ said (fun _ h => by cases h) (by kernel_rfl) (fun _ h => by cases h) unitsMatchesCheckUpto_row_tie rfl ⟨rfl, rfl⟩ (by kernel_rfl) rfl plain (by kernel_rfl)
end Go.Proofs.YtpfdmcpnbkohdaaGreatDoor.unitsMatchesCheck
