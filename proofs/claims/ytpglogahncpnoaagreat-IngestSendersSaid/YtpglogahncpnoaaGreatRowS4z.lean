/-
  Source, Submit, Resend and Acknowledge agree with the reference for every name, sender, fact and packet.
  Conditions: none.
-/
import Derived.Test.YtpglogahncpnoaaGreatPart10
namespace Go.Proofs.YtpglogahncpnoaaGreat.ingestSenders
open Go.ChangeShapes Go.WideShapes Go.ChangeAt Go.RowKit Go.ChangeMaps Go.Abs

theorem own : ownKnob Tryz.prog.godebug = none := by kernel_rfl
theorem law_walk {W : World} (l0 : List UInt8) (l1 : SdI) (l2 : FcI) (l3 : PkI) {v0 v1 v2 v3 : Value} (h0 : Rep (oldE W) W (.str l0) v0) (h1 : Rep (oldE W) W (.agg (sdCl l1)) v1) (h2 : Rep (oldE W) W (.agg (fcC l2)) v2) (h3 : Rep (oldE W) W (.agg (pkCl l3)) v3) (n1 : sd3 l1 = true) (n2 : fcsOk [l2] = true) (n3 : fcsOk [l3.f] = true) (hsh : W.ShapedOpen Tryz.prog) : Calls Tryz.prog 3 #[v0, v1, v2, v3] W fun e w' => e = .returned (.bool true) ∧ Below W.heap.size W w' := by
  obtain ⟨m, hm⟩ := Tryz.laysM144.s1_3 W hsh
  refine law_calls (o3z m) (goodI (by kernel_rfl)) (args := [.str l0, .agg (sdCl l1), .agg (fcC l2), .agg (pkCl l3)]) (s3z_true l0 l1 l2 l3 n1 n2 n3) (E := oldE W) (fun b o hb => hb) (globI hsh hm) rfl (fun i c v hi hv => ?_) (fun c hc => ?_)
  · match i, hi with
    | 0, hi => simp only [List.getElem?_cons_zero, Option.some.injEq] at hi; subst hi; simp at hv; subst hv; exact h0
    | 1, hi => simp only [List.getElem?_cons_succ, List.getElem?_cons_zero, Option.some.injEq] at hi; subst hi; simp at hv; subst hv; exact h1
    | 2, hi => simp only [List.getElem?_cons_succ, List.getElem?_cons_zero, Option.some.injEq] at hi; subst hi; simp at hv; subst hv; exact h2
    | 3, hi => simp only [List.getElem?_cons_succ, List.getElem?_cons_zero, Option.some.injEq] at hi; subst hi; simp at hv; subst hv; exact h3
    | i + 4, hi => simp at hi
  · simp only [List.mem_cons, List.not_mem_nil, or_false] at hc
    rcases hc with rfl | rfl | rfl | rfl <;> rfl

set_option maxRecDepth 100000 in
theorem contract (H : Type) (enc : TypeId × Value → H) (W : World) (base : Nat) (args : Array Value) (ds gs : List (DataW H)) (before : List MemPlace)
    (hval : ∀ (j : Nat) t v, Tryz.f3.params[j]? = some t → args[j]? = some v → Value.okWide Tryz.prog W .any base t v)
    (hW : DataW.Whole enc Tryz.prog Tryz.f3.params.toList Rows.ingestSendersSpec.vars false W args.toList ds gs before) (hsh : W.ShapedOpen Tryz.prog) (hz : (DataW.weightsEach Tryz.prog (Tryz.f3.params.toList ++ (OpenSpec.ofChange Rows.ingestSendersSpec).bare.plain.varTypes Tryz.prog) (ds ++ gs)).all (· ≤ reachBytes) = true) :
    Calls Tryz.prog 3 args W fun e W' => ∃ v, e = .returned v ∧ Rows.ingestSendersSpec.post enc Tryz.prog Tryz.f3 false true false false W args v W' := by
  have hW' := hW
  obtain ⟨p, q, hA0, hV, rfl, hfz, hnd⟩ := hW
  have hA : DataW.TrodAll enc Tryz.prog W 0 (fun _ => true) true Tryz.f3.params.toList args.toList ds p := hA0
  rw [Tryz.params3] at hA hval hz
  obtain ⟨v0, vs0, d0, ds0, p0, q0, hargs, rfl, rfl, h0, r0⟩ := trodAll_cons hA
  obtain ⟨v1, vs1, d1, ds1, p1, q1, rfl, rfl, rfl, h1, r1⟩ := trodAll_cons r0
  obtain ⟨v2, vs2, d2, ds2, p2, q2, rfl, rfl, rfl, h2, r2⟩ := trodAll_cons r1
  obtain ⟨v3, vs3, d3, ds3, p3, q3, rfl, rfl, rfl, h3, r3⟩ := trodAll_cons r2
  obtain ⟨rfl, rfl, rfl⟩ := trodAll_nil r3
  obtain rfl : args = #[v0, v1, v2, v3] := by cases args; simp_all
  obtain ⟨rfl, rfl⟩ := trodVars_none hV
  obtain ⟨l0, g0, q0⟩ := open_one (g := fun s : List UInt8 => .str s) rStr (one_str Tryz.underlying9 (hval 0 9 v0 rfl rfl)) h0
  obtain ⟨l1, g1, q1⟩ := open_agg rSender (is_agg Tryz.underlying24 (hval 1 24 v1 rfl rfl)) h1
  have n1 : sd3 l1 = true := sd3_of q1 (wmax_arg hz (j := 1) rfl rfl)
  obtain ⟨l2, g2, q2⟩ := open_agg rFact (is_agg Tryz.underlying29 (hval 2 29 v2 rfl rfl)) h2
  have n2 : fcsOk [l2] = true := fc1_of q2 (wmax_arg hz (j := 2) rfl rfl)
  obtain ⟨l3, g3, q3⟩ := open_agg (g := fun p => (pkA p).cells) rPacket (is_agg Tryz.underlying31 (hval 3 31 v3 rfl rfl)) h3
  have n3 : fcsOk [l3.f] = true := fc1_of q3.1 (wmax_arg hz (j := 3) rfl rfl)
  clear hA0
  simp only [List.append_nil] at hW'
  refine (law_walk l0 l1 l2 l3 g0 g1 g2 g3 n1 n2 n3 hsh).mono fun e W' ⟨he, hb⟩ => ?_
  subst he
  exact ⟨_, rfl, law_post hW' rfl rfl rfl Tryz.underlying4 (by kernel_rfl) (by intro t ht; revert t; exact of_decide_eq_true (by kernel_rfl)) hb⟩

noncomputable abbrev wit (os : Os) : World := World.laidAll Tryz.prog os Rows.ingestSendersRow.laid
theorem laid_met (os : Os) : laidMet Tryz.prog Rows.ingestSendersRow.laid ((wit os).forCall (fun _ _ => 0) ⟨#[], #[.string ⟨#[]⟩, .agg #[.string ⟨#[]⟩, .int .i64 0, .slice none 0 0], .agg #[.string ⟨#[]⟩, .int .i64 0, .int .i64 0, .int .i64 0, .string ⟨#[]⟩, .string ⟨#[]⟩, .int .i64 0, .slice none 0 0], .agg #[.string ⟨#[]⟩, .bool false, .int .i64 0, .string ⟨#[]⟩, .int .i64 0, .int .i64 0, .int .i64 0, .string ⟨#[]⟩, .string ⟨#[]⟩, .int .i64 0, .slice none 0 0]], []⟩).memory :=
  laidMet_laidAll _ (by kernel_rfl) (by kernel_rfl)
theorem reads (os : Os) {H : Type} (enc : TypeId × Value → H) : ∃ places, DataW.whole enc Tryz.prog ((wit os).forCall (fun _ _ => 0) ⟨#[], #[.string ⟨#[]⟩, .agg #[.string ⟨#[]⟩, .int .i64 0, .slice none 0 0], .agg #[.string ⟨#[]⟩, .int .i64 0, .int .i64 0, .int .i64 0, .string ⟨#[]⟩, .string ⟨#[]⟩, .int .i64 0, .slice none 0 0], .agg #[.string ⟨#[]⟩, .bool false, .int .i64 0, .string ⟨#[]⟩, .int .i64 0, .int .i64 0, .int .i64 0, .string ⟨#[]⟩, .string ⟨#[]⟩, .int .i64 0, .slice none 0 0]], []⟩).memory Tryz.f3.params.toList Rows.ingestSendersSpec.vars false #[Value.string ⟨#[]⟩, .agg #[.string ⟨#[]⟩, .int .i64 0, .slice none 0 0], .agg #[.string ⟨#[]⟩, .int .i64 0, .int .i64 0, .int .i64 0, .string ⟨#[]⟩, .string ⟨#[]⟩, .int .i64 0, .slice none 0 0], .agg #[.string ⟨#[]⟩, .bool false, .int .i64 0, .string ⟨#[]⟩, .int .i64 0, .int .i64 0, .int .i64 0, .string ⟨#[]⟩, .string ⟨#[]⟩, .int .i64 0, .slice none 0 0]].toList 8 = some ([.lit (.string []), .agg [.lit (.string []), .lit (.int .i64 0), .nil], .agg [.agg [.lit (.string []), .lit (.int .i64 0)], .lit (.int .i64 0), .lit (.int .i64 0), .lit (.string []), .lit (.string []), .lit (.int .i64 0), .nil], .agg [.lit (.string []), .lit (.bool false), .lit (.int .i64 0), .agg [.agg [.lit (.string []), .lit (.int .i64 0)], .lit (.int .i64 0), .lit (.int .i64 0), .lit (.string []), .lit (.string []), .lit (.int .i64 0), .nil]]], [], places) :=
  ⟨[], by kernel_rfl⟩

set_option maxRecDepth 100000 in
theorem lifted (os : Os) (started : os.Started) (H : Type) (enc : TypeId × Value → H) (F : Stop.Interp) :
    ReturnsInHanded {} Tryz.checked os 3 .any ((OpenSpec.ofChange Rows.ingestSendersSpec).preRow enc Tryz.prog Tryz.f3 Rows.ingestSendersRow.domain false Rows.ingestSendersRow.laid) (((OpenSpec.ofChange Rows.ingestSendersSpec).at F).post enc Tryz.prog Tryz.f3 false true false false) := by
  obtain ⟨places, hx⟩ := reads os enc
  refine returnsInHanded_of_row (C := Tryz.checked) (s := OpenSpec.ofChange Rows.ingestSendersSpec) own started (by kernel_rfl) Tryz.func3
    (witness_row_shaped (enc := enc) (C := Tryz.checked) (wit os) #[.string ⟨#[]⟩, .agg #[.string ⟨#[]⟩, .int .i64 0, .slice none 0 0], .agg #[.string ⟨#[]⟩, .int .i64 0, .int .i64 0, .int .i64 0, .string ⟨#[]⟩, .string ⟨#[]⟩, .int .i64 0, .slice none 0 0], .agg #[.string ⟨#[]⟩, .bool false, .int .i64 0, .string ⟨#[]⟩, .int .i64 0, .int .i64 0, .int .i64 0, .string ⟨#[]⟩, .string ⟨#[]⟩, .int .i64 0, .slice none 0 0]] (World.laidAll_os _ _ _) (World.shaped_of_ZipB (by kernel_rfl) (by kernel_rfl)) (by kernel_rfl)
      (OpenSpec.preRow_of_cond 8 hx (by kernel_rfl) (fun k hk => by cases hk) (by kernel_rfl) (laid_met os))) ?_
  intro W base args ds gs before hval hW _ _ hz _ hsh _
  exact contract H enc W base args ds gs before hval hW hsh hz

theorem said : Rows.IngestSendersSaid :=
  OpenClaim.holds_of_cond 3 Tryz.f3 rfl rfl rfl rfl rfl rfl rfl ⟨rfl, rfl, rfl, rfl, rfl⟩ rfl rfl rfl rfl rfl (by kernel_rfl) Tryz.func3 (by kernel_rfl)
    (of_decide_eq_true (by kernel_rfl)) (by unfold Func.isWrapper; first | (rw [if_pos (by decide +kernel)]; kernel_rfl) | (rw [if_neg (by decide +kernel)]; exact ⟨rfl, rfl⟩))
    (fun os started H enc _ F => by rw [OpenClaim.pre_eq_preRow]; exact lifted os started H enc F)
end Go.Proofs.YtpglogahncpnoaaGreat.ingestSenders
