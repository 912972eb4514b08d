/- Own texts, part 8. -/
import Derived.Test.YtpfdmcpnbkohdaaGreatDoorPart7
import Derived.Test.YtpfdmcpnbkohdaaGreatDoorPart6
import Derived.Test.YtpfdmcpnbkohdaaGreatDoorPart3
import Derived.Test.YtpfdmcpnbkohdaaGreatDoorRows
import Derived.Lib.LaidTab
import Derived.Lib.LaidU8
import Derived.LaidLaws
import Derived.Lay
import Derived.Shelf.Lay

namespace Go.Abs
open Go.Proofs Go.RowKit
abbrev T35 : List (FuncId × Spec) := [(51, s51), (52, s52), (53, s53), (36, s36)]
theorem t35_51 {n : Int} (h : iOk n) : tbl T35 51 [.int .i64 n] = some (wideA n, []) := by
  unfold T35
  rw [tb_hit]; simp only [s51, s29]; rw [if_pos h]
theorem t35_52 {a b a' b' : Int} (h : wOk a b) (h' : wOk a' b') : tbl T35 52 [.agg [.int .i64 a, .int .u64 b], .agg [.int .i64 a', .int .u64 b']] = some (wideA (wv a b + wv a' b'), []) := by
  unfold T35
  rw [tb_miss (by decide), tb_hit]; simp only [s52, s28, sW2]; rw [if_pos ⟨h, h'⟩]
theorem t35_53 {a b : Int} (h : wOk a b) : tbl T35 53 [.agg [.int .i64 a, .int .u64 b], .int .i64 1] = some (.tup [.int .i64 (if small (wv a b) then wv a b else 0), .bool (small (wv a b))], []) := by
  unfold T35
  rw [tb_miss (by decide), tb_miss (by decide), tb_hit]; simp only [s53, s31]; rw [if_pos ⟨h, trivial⟩]
theorem sumN_step {l : List Fac} {i : Nat} {f : Fac} (h : l[i]? = some f) (s : List UInt8) : sumN (l.take (i + 1)) s = sumN (l.take i) s + if f.s = s then f.e else 0 := by
  rw [List.take_add_one, h, sumN_app]
  simp [sumN]
theorem p35 (m : Int) (l : List Fac) (s : List UInt8) (hl : lenOk l) (he : ∀ f ∈ l, iOk f.e) : PureOk PU (GU m) XE (tbl T35) (itbl []) (a35 l s) [] 35 [.sl 2 (facsL l) .no, .str s] (expR l s) := by
  constructor
  rw [w35]
  have hS : ∀ {S : St}, StIs S S := stIs_iff.2 rfl
  have hlen : (facsL l).length = l.length := List.length_map ..
  have hlo := hl
  unfold lenOk at hlo
  have hbig : ∀ i, bigOk (sumN (l.take i) s) := fun i => sum_big (by unfold lenOk; rw [List.length_take]; omega) (fun g hg => he g (List.mem_of_mem_take hg)) s
  rw [hlen]
  refine ⟨0, 0, callIs_iff.2 rfl, ⟨0, valsAre_iff.2 rfl, stIs_iff.2 rfl, Nat.zero_le _, trivial⟩, fun x hx => ⟨fun hlt => ?_, fun hlt => ?_⟩⟩
  · have hlt := Int.ofNat_lt.1 (of_decide_eq_true hlt)
    have hf := List.getElem?_eq_getElem hlt
    have hm : l[x] ∈ l := List.getElem_mem hlt
    generalize l[x] = f at hf hm
    have hst := sumN_step hf s
    refine ⟨⟨by omega, by omega⟩, f.s, take_name (by simpa using hf), fun hs => ?_, fun hs => ?_⟩
    · have hs : f.s = s := by simpa using hs
      rw [if_pos hs] at hst
      obtain ⟨a, b, hX, hwo, hwv⟩ := wideA_big (hbig x)
      obtain ⟨a2, b2, hX2, hwo2, hwv2⟩ := wideA_big (iOk_big (he f hm))
      obtain ⟨a3, b3, hX3, _, _⟩ := wideA_form (sumN (l.take (x + 1)) s)
      refine ⟨⟨by omega, by omega⟩, f.e, take_exp (by simpa using hf), a2, b2, callIs_iff.2 (by rw [t35_51 (he f hm), hX2]), a3, b3, ?_, x + 1, valsAre_iff.2 (by rw [wrap64_in (by omega) (by omega)]; rfl), stIs_iff.2 ?_, hlt, by omega⟩
      · show CallIs (tbl T35 52 [wideA (sumN (l.take x) s), .agg [.int .i64 a2, .int .u64 b2]]) _ _
        rw [hX]
        exact callIs_iff.2 (by rw [t35_52 hwo hwo2, hwv, hwv2, ← hX3, hst])
      · have e : [AV.int .i64 (IntKind.i64.wrap (sumN (l.take (x + 1)) s / 18446744073709551616)), AV.int .u64 (sumN (l.take (x + 1)) s % 18446744073709551616)] = [AV.int .i64 a3, AV.int .u64 b3] := by
          unfold wideA at hX3; injection hX3
        rw [e]
    · have hs : f.s ≠ s := by simpa using hs
      rw [if_neg hs, Int.add_zero] at hst
      exact ⟨x + 1, valsAre_iff.2 (by rw [wrap64_in (by omega) (by omega)]; rfl), stIs_iff.2 (by rw [hst]), hlt, by omega⟩
  · have hlt := of_decide_eq_false hlt
    obtain rfl : x = l.length := by omega
    obtain ⟨a, b, hX, hwo, hwv⟩ := wideA_big (hbig l.length)
    have ht : sumN (l.take l.length) s = sumN l s := by rw [List.take_length]
    rw [ht] at hwv hX ⊢
    generalize sumN l s = X at *
    refine ⟨if small X then X else 0, small X, ?_, fun hb => ⟨farB X, callIs_iff.2 (by rw [if_pos hb]), fun hfar => retIs_iff.2 (by rw [hfar]; rfl), fun hfar => retIs_iff.2 (by rw [hfar, if_pos hb]; rfl)⟩, fun hb => retIs_iff.2 ?_⟩
    · show CallIs (tbl T35 53 [wideA X, .int .i64 1]) _ _
      rw [hX]
      exact callIs_iff.2 (by rw [t35_53 hwo, hwv])
    · cases hfar : farB X with
      | true => rfl
      | false => rw [far_small hfar] at hb; cases hb
abbrev T12 : List (FuncId × Spec) := [(33, s33), (34, s34), (35, s35)]
theorem p12 (m : Int) (l : List Fac) (hl : lenOk l) (he : ∀ f ∈ l, iOk f.e) : LaxOk PU (GU m) XE (tbl T12) (itbl []) (a12 l) [] 12 [.sl 2 (facsL l) .no] (facR (normP l)) := by
  constructor
  rw [w12]
  have hS : ∀ {S : St}, StIs S S := stIs_iff.2 rfl
  have hV : ∀ {l : List AV}, ValsAre l l := valsAre_iff.2 rfl
  have hlen : (facsL l).length = l.length := List.length_map ..
  have hlen2 : ∀ l, (facsL l).length = l.length := fun _ => List.length_map ..
  have hlo := hl
  unfold lenOk at hlo
  rw [hlen]
  refine ⟨⟨0, hV, hS, ⟨Nat.zero_le _, rfl⟩, trivial⟩, fun x hx => ⟨fun hlt => ?_, fun hlt => ?_⟩⟩
  · obtain ⟨hx1, hx2⟩ := hx
    have hlt := Int.ofNat_lt.1 (of_decide_eq_true hlt)
    have hf := List.getElem?_eq_getElem hlt
    have hm : l[x] ∈ l := List.getElem_mem hlt
    generalize l[x] = f at hf hm
    refine ⟨⟨by omega, by omega⟩, f.s, take_name (by simpa using hf), wordB f.s, callIs_iff.2 rfl, fun hw => ⟨x + 1, valsAre_iff.2 (by rw [wrap64_in (by omega) (by omega)]; rfl), hS, ⟨hlt, ?_⟩, by omega⟩, fun hw => retFac (r := normP l) (l := []) (e := 1) ?_ (.inr rfl)⟩
    · rw [List.take_add_one, List.all_append, hx2, hf]; simpa using hw
    · have hall : (l.all fun f => wordB f.s) = false := by
        rw [← Bool.not_eq_true, List.all_eq_true]
        intro h; rw [h f hm] at hw; cases hw
      unfold normP; rw [if_pos hall]
  · obtain ⟨hx1, hx2⟩ := hx
    have hlt := of_decide_eq_false hlt
    obtain rfl : x = l.length := by omega
    rw [List.take_length] at hx2
    have hnl : (namesOf l).length ≤ l.length := by
      have := nm_len l l.length
      unfold nmL at this; rwa [List.take_length] at this
    refine ⟨strsA (namesOf l), callIs_iff.2 (by rw [tb_miss (by decide), tb_hit, s34, tF, if_pos hl]), ⟨0, hV, hS, ⟨Nat.zero_le _, rfl⟩, trivial⟩, fun x hx => ⟨fun hlt => ?_, fun hlt => ?_⟩⟩
    · obtain ⟨hy1, hy2⟩ := hx
      rw [strs_len] at hlt
      have hlt := Int.ofNat_lt.1 (of_decide_eq_true hlt)
      have hf := List.getElem?_eq_getElem hlt
      have hm : (namesOf l)[x] ∈ namesOf l := List.getElem_mem hlt
      generalize (namesOf l)[x] = s at hf hm
      have hX0 : getS (sumsL l []) s = sumN l s := getS_sums l s
      have hout : outR l (x + 1) = if getS (sumsL l []) s = 0 then outR l x else outR l x ++ [⟨s, getS (sumsL l []) s⟩] := out_succ hf
      rw [hX0] at hout
      have hol : (outR l x).length ≤ x := by
        unfold outR
        have := pick_len (sumsL l []) ((namesOf l).take x)
        rw [List.length_take] at this; omega
      have hany : farB (sumN l s) = true → ([], (70 : Int)) = normP l := fun hfar => by
        have : (namesOf l).any (fun s => farB (getS (sumsL l []) s)) = true := List.any_eq_true.2 ⟨s, hm, by rw [hX0]; exact hfar⟩
        unfold normP; rw [if_neg (by rw [hx2]; simp), if_pos this]
      have next : ∀ {L : List AV} {n : Nat}, farB (sumN l s) = false → L = facsL (outR l (x + 1)) → n = (outR l (x + 1)).length → ∃ y : Nat,
          ValsAre [AV.sl 2 (facsL l) Own.no, AV.sl 1 (strsA (namesOf l)) Own.no, AV.sl 2 L (Own.tok 0), AV.int .i64 (IntKind.i64.wrap ((x : Int) + 1))]
            [AV.sl 2 (facsL l) Own.no, AV.sl 1 (strsA (namesOf l)) Own.no, AV.sl 2 (facsL (outR l y)) (Own.tok 0), AV.int .i64 (y : Int)] ∧
          StIs { boxes := [], live := [(n, 37)] } { boxes := [], live := [((outR l y).length, 37)] } ∧
          (y ≤ (namesOf l).length ∧ (((namesOf l).take y).any fun s => farB (getS (sumsL l []) s)) = false) ∧ (namesOf l).length - y < (namesOf l).length - x := fun {L n} hfar h1 h2 => by
        subst h1; subst h2
        refine ⟨x + 1, valsAre_iff.2 (by rw [wrap64_in (by omega) (by omega)]; rfl), hS, ⟨by omega, ?_⟩, by omega⟩
        rw [List.take_add_one, List.any_append, hy2, hf]; simp [hX0, hfar]
      generalize hX : sumN l s = X at *
      refine ⟨⟨by omega, by rw [strs_len]; omega⟩, s, take_str (by simpa using hf), if farB X then 0 else X, !farB X, callIs_iff.2 ?_, fun hb => ?_, fun hb => retFac (hany (by simpa using hb)) (.inr rfl)⟩
      · rw [tb_miss (by decide), tb_miss (by decide), tb_hit]
        simp only [s35, true_or, if_true, unFs, Option.bind_some]
        rw [if_pos ⟨hl, he⟩]; unfold expR; rw [hX]
      · have hfar : farB X = false := by simpa using hb
        rw [hfar]
        simp only [Bool.false_eq_true, if_false]
        refine ⟨fun hne => ⟨⟨by omega, by rw [strs_len]; omega⟩, s, take_str (by simpa using hf), .inl trivial, ?_, (hlen2 _).symm, ?_⟩, fun hz => ?_⟩
        · rw [hlen2]; exact Nat.le_trans (Nat.mul_le_mul_right 25 (show _ ≤ 1000000001 by omega)) (by decide)
        · have hne : X ≠ 0 := by simpa using hne
          rw [if_neg hne] at hout
          exact next hfar (by rw [hout]; simp [facA]) (by rw [hout]; simp)
        · have hz : X = 0 := by simpa using hz
          rw [if_pos hz] at hout
          exact next hfar (by rw [hout]) (by rw [hout])
    · obtain ⟨hy1, hy2⟩ := hx
      rw [strs_len] at hlt
      have hlt := of_decide_eq_false hlt
      obtain rfl : x = (namesOf l).length := by omega
      rw [List.take_length] at hy2
      have hall : outR l (namesOf l).length = pickF (sumsL l []) (namesOf l) := by unfold outR; rw [List.take_length]
      rw [hall]
      have hnp : normP l = if 4 < (pickF (sumsL l []) (namesOf l)).length then ([], 2) else (pickF (sumsL l []) (namesOf l), 0) := by
        unfold normP; rw [if_neg (by rw [hx2]; simp), if_neg (by rw [hy2]; simp)]
      refine ⟨fun h4 => retFac ?_ (.inr rfl), fun h4 => retFac ?_ (.inl rfl)⟩
      · have h4 := of_decide_eq_true h4
        rw [List.length_map] at h4
        rw [hnp, if_pos (by omega)]
      · have h4 := of_decide_eq_false h4
        rw [List.length_map] at h4
        rw [hnp, if_neg (by omega)]
theorem times_step {l : List Fac} {i : Nat} {f : Fac} (h : l[i]? = some f) (k : Int) : timesL (l.take (i + 1)) k = timesL (l.take i) k ++ [⟨f.s, k * f.e⟩] := by
  unfold timesL; rw [List.take_add_one, h, List.map_append]; rfl
theorem p38 (m : Int) (l : List Fac) (hc : checkF l = 0) : LaxOk PU (GU m) XE (tbl []) (itbl []) (a38 l) [] 38 [.sl 2 (facsL l) .no] (.sl 2 (facsL (timesL l (-1))) .no, []) := by
  constructor
  rw [w38]
  have hS : ∀ {S : St}, StIs S S := stIs_iff.2 rfl
  have hV : ∀ {l : List AV}, ValsAre l l := valsAre_iff.2 rfl
  have hlen : ∀ l, (facsL l).length = l.length := fun _ => List.length_map ..
  have h4 := check_len hc
  have htl : ∀ i, (timesL (l.take i) (-1)).length ≤ 4 := fun i => by unfold timesL; rw [List.length_map, List.length_take]; omega
  simp only [hlen]
  refine ⟨⟨0, hV, hS, Nat.zero_le _, trivial⟩, fun x hx => ⟨fun hlt => ?_, fun hlt => ?_⟩⟩
  · have hlt := Int.ofNat_lt.1 (of_decide_eq_true hlt)
    have hf := List.getElem?_eq_getElem hlt
    have hm : l[x] ∈ l := List.getElem_mem hlt
    generalize l[x] = f at hf hm
    have hn := near (check_mem hc f hm).2.2
    have hst := times_step hf (-1)
    have := htl x
    refine ⟨⟨by omega, by omega⟩, f.s, take_name (by simpa using hf), ⟨by omega, by omega⟩, f.e, take_exp (by simpa using hf), .inl trivial, by omega, trivial, x + 1, valsAre_iff.2 ?_, stIs_iff.2 ?_, hlt, by omega⟩
    · rw [hst, wrap64_in (n := (0 : Int) - f.e) (by omega) (by omega), show (0 : Int) - f.e = -1 * f.e by omega, wrap64_in (by omega) (by omega)]
      generalize timesL (l.take x) (-1) = L
      simp [facA]
    · rw [hst, List.length_append]; rfl
  · have hlt := of_decide_eq_false hlt
    obtain rfl : x = l.length := by omega
    rw [List.take_length]
    exact retLax_iff.2 ⟨⟨rfl, rfl, .inl rfl⟩, rfl, rfl⟩
theorem neg_check {r : List Fac} (h : checkF r = 0) : checkF (timesL r (-1)) = 0 := by
  refine check_of (by simpa [timesL] using check_len h) (fun f hm => ?_) (times_inc (-1) (check_inc h))
  obtain ⟨g, hg, rfl⟩ := List.mem_map.1 hm
  obtain ⟨w1, w2, w3⟩ := check_mem h g hg
  have := near w3
  refine ⟨w1, by simp only; omega, ?_⟩
  simp only [farB]
  exact decide_eq_false (by omega)
theorem times_one (l : List Fac) : timesL l 1 = l := by
  unfold timesL
  conv => rhs; rw [← List.map_id l]
  exact List.map_congr_left fun f _ => by cases f; simp
theorem neg_prod {l r : List Fac} (h : checkF l = 0) (h' : checkF r = 0) : prodP l (timesL r (-1)) 1 = prodP l r (-1) := by
  rw [prod_eq h (neg_check h'), prod_eq h h', times_one]
abbrev T17 : List (FuncId × Spec) := [(14, s14), (12, s12)]
theorem p17 (m : Int) (l r : List Fac) : LaxOk PU (GU m) XE (tbl T17) (itbl []) nAn [] 17 [.sl 2 (facsL l) .no, .sl 2 (facsL r) .no] (facR (prodP l r 1)) := by
  constructor
  rw [w17]
  have hlen : ∀ l, (facsL l).length = l.length := fun _ => List.length_map ..
  have t14 : ∀ x : List Fac, tbl T17 14 [.sl 2 (facsL x) .no] = some (.int .i64 (checkF x), []) := fun x => by unfold T17; rw [tb_hit, s14, s13, tF]
  have t12 : ∀ x : List Fac, lenOk x → (∀ f ∈ x, iOk f.e) → tbl T17 12 [.sl 2 (facsL x) .no] = some (facR (normP x)) := fun x h h' => by unfold T17; rw [tb_miss (by decide), tb_hit, s12, s11, tF, if_pos ⟨h, h'⟩]
  simp only [hlen]
  refine ⟨checkF l, callIs_iff.2 (t14 l), fun h => retFac ?_ (.inr rfl), fun h => ⟨checkF r, callIs_iff.2 (t14 r), fun h' => retFac ?_ (.inr rfl), fun h' => ?_⟩⟩
  · have h : checkF l ≠ 0 := by simpa using h
    unfold prodP; rw [if_pos h]
  · have h : checkF l = 0 := by simpa using h
    have h' : checkF r ≠ 0 := by simpa using h'
    unfold prodP; rw [if_neg (by simpa using h), if_pos h']
  · have h : checkF l = 0 := by simpa using h
    have h' : checkF r = 0 := by simpa using h'
    have l4 := check_len h
    have r4 := check_len h'
    have hp : prodP l r 1 = normP (l ++ r) := by rw [prod_eq h h', times_one]
    have he : ∀ f ∈ l ++ r, iOk f.e := fun f hf => by
      rcases List.mem_append.1 hf with hf | hf
      · have := near (check_mem h f hf).2.2; unfold iOk; omega
      · have := near (check_mem h' f hf).2.2; unfold iOk; omega
    have app : facsL l ++ facsL r = facsL (l ++ r) := (List.map_append ..).symm
    refine ⟨.inr trivial, by omega, fun hz => ⟨.inr trivial, by omega, fun hz' => ⟨[], 0, callIs_iff.2 rfl, ?_⟩, fun hz' => ?_⟩, fun hz => ⟨.inl trivial, by rw [List.nil_append, hlen]; omega, by rw [List.nil_append, hlen]; omega, ?_⟩⟩
    · have e1 : l = [] := List.map_eq_nil_iff.1 hz
      have e2 : r = [] := List.map_eq_nil_iff.1 hz'
      subst e1; subst e2
      exact retFac (l := []) (e := 0) (by rw [hp]; rfl) (.inr rfl)
    · have e1 : l = [] := List.map_eq_nil_iff.1 hz
      subst e1
      rw [List.nil_append] at hp he ⊢
      exact ⟨_, _, callIs_iff.2 (t12 r (by unfold lenOk; omega) he), retFac hp.symm (.inl rfl)⟩
    · rw [List.nil_append, app]
      exact ⟨_, _, callIs_iff.2 (t12 _ (by unfold lenOk; rw [List.length_append]; omega) he), retFac hp.symm (.inl rfl)⟩
abbrev T19 : List (FuncId × Spec) := [(14, s14), (38, s38), (17, s17)]
theorem p19 (m : Int) (l r : List Fac) : LaxOk PU (GU m) XE (tbl T19) (itbl []) nAn [] 19 [.sl 2 (facsL l) .no, .sl 2 (facsL r) .no] (facR (prodP l r (-1))) := by
  constructor
  rw [w19]
  have t14 : ∀ x : List Fac, tbl T19 14 [.sl 2 (facsL x) .no] = some (.int .i64 (checkF x), []) := fun x => by unfold T19; rw [tb_hit, s14, s13, tF]
  refine ⟨checkF l, callIs_iff.2 (t14 l), fun h => retFac ?_ (.inr rfl), fun h => ⟨checkF r, callIs_iff.2 (t14 r), fun h' => retFac ?_ (.inr rfl), fun h' => ?_⟩⟩
  · have h : checkF l ≠ 0 := by simpa using h
    unfold prodP; rw [if_pos h]
  · have h : checkF l = 0 := by simpa using h
    have h' : checkF r ≠ 0 := by simpa using h'
    unfold prodP; rw [if_neg (by simpa using h), if_pos h']
  · have h : checkF l = 0 := by simpa using h
    have h' : checkF r = 0 := by simpa using h'
    refine ⟨_, callIs_iff.2 (by rw [tb_miss (by decide), tb_hit, s38, tF, if_pos h']), _, _, callIs_iff.2 (by rw [tb_miss (by decide), tb_miss (by decide), tb_hit, s17, s16, tF2]; rfl), retFac (neg_prod h h') (.inl rfl)⟩
/-! ### the specs -/
theorem sFl_of {X : Shapes} {R : Callee} {C : CCallee} {m : Int} {g : FuncId} {f : List Fac → Option (AV × List (Nat × TypeId))} (hR : CalleeOk PU (GU m) R) (hC : ICalleeOk PU (GU m) (lowC C))
    (h : ∀ l v, f l = some v → ∃ A, LaxOk PU (GU m) X R C A [] g [.sl 2 (facsL l) .no] v) : SpecOk PU (GU m) g (sF f) := lax_ofW (X := X) (m := []) [2] mixedU hR hC fun args r h' => by
  unfold sF at h'
  split at h'
  · split at h'
    · rename_i sz es o hz
      cases hu : unL unF es with
      | none => rw [hu] at h'; cases h'
      | some l =>
        rw [hu] at h'
        simp only [Option.bind_some] at h'
        simp only [wkL, wkF hz hu]
        exact h l _ h'
    · cases h'
  · cases h'
theorem o34 (m : Int) : SpecOk PU (GU m) 34 s34 := sFl_of (X := XE) tbl_nil itbl_nil fun l v h => by
  split at h
  · rename_i hl; injection h with h; subst h; exact ⟨_, p34 m l hl⟩
  · cases h
theorem o35 (m : Int) : SpecOk PU (GU m) 35 s35 := spec_ofW (X := XE) (m := []) [2] mixedU (tbl_cons (o51 _) (tbl_cons (o52 _) (tbl_cons (o53 _) (tbl_cons (o36 m) tbl_nil)))) itbl_nil fun args r h' => by
  unfold s35 at h'
  split at h'
  · split at h'
    · rename_i sz es o s hz
      cases hu : unL unF es with
      | none => rw [hu] at h'; cases h'
      | some l =>
        rw [hu] at h'
        simp only [Option.bind_some] at h'
        split at h'
        · rename_i hc
          injection h' with h'; subst h'
          simp only [wkL, wkF hz hu]
          exact ⟨_, p35 m l s hc.1 hc.2⟩
        · cases h'
    · cases h'
  · cases h'
theorem o12 (m : Int) : SpecOk PU (GU m) 12 s12 := sFl_of (X := XE) (tbl_cons (o33 m) (tbl_cons (o34 m) (tbl_cons (o35 m) tbl_nil))) itbl_nil fun l v h => by
  split at h
  · rename_i hc; injection h with h; subst h; exact ⟨_, p12 m l hc.1 hc.2⟩
  · cases h
theorem o38 (m : Int) : SpecOk PU (GU m) 38 s38 := sFl_of (X := XE) tbl_nil itbl_nil fun l v h => by
  split at h
  · rename_i hc; injection h with h; subst h; exact ⟨_, p38 m l hc⟩
  · cases h
theorem o17 (m : Int) : SpecOk PU (GU m) 17 s17 := sF2_of (X := XE) (tbl_cons (o14 m) (tbl_cons (o12 m) tbl_nil)) itbl_nil fun l r v h => by
  injection h with h; subst h; exact ⟨_, p17 m l r⟩
theorem o19 (m : Int) : SpecOk PU (GU m) 19 s19 := sF2_of (X := XE) (tbl_cons (o14 m) (tbl_cons (o38 m) (tbl_cons (o17 m) tbl_nil))) itbl_nil fun l r v h => by
  injection h with h; subst h; exact ⟨_, p19 m l r⟩
end Go.Abs

namespace Go.Abs
open Go.Proofs Go.RowKit
def s46 (K : Int) : Spec := fun args => match args with
  | [.int .i64 n] => if -K < n ∧ n < K ∧ iOk n then some (.str (Lib.itoa n), []) else none
  | _ => none
def fmtOk (l : List Fac) : Prop := l.length ≤ 1100000 ∧ (∀ f ∈ l, iOk f.e) ∧ (fmtF l).length ≤ 100000000
instance (l : List Fac) : Decidable (fmtOk l) := inferInstanceAs (Decidable (_ ∧ _))
def s24 : Spec := sF fun l => if fmtOk l then some (.str (fmtF l), []) else none
def s23g : Spec := s24
/-! a part of a text, read loosely -/
def atP (s : List UInt8) : Nat := (s.takeWhile (· ≠ 94)).length
def stepD (p : Int × Bool) (c : UInt8) : Int × Bool := if c = 45 then (p.1, true) else (10 * p.1 + c.toNat - 48, p.2)
def foldD (s : List UInt8) (k : Nat) : Int × Bool := (s.take k).foldl stepD (0, false)
def facX (s : List UInt8) : Fac := if atP s = s.length then ⟨s, 1⟩ else ⟨s.take (atP s), if (foldD (s.drop (atP s + 1)) 3).2 then -(foldD (s.drop (atP s + 1)) 3).1 else (foldD (s.drop (atP s + 1)) 3).1⟩
def s43 : Spec := fun args => match args with
  | [.str s] => if strOk s then some (facA (facX s), []) else none
  | _ => none
/-- the parts read so far, and where the next one begins -/
def psN (s : List UInt8) : Nat → List Fac × Nat
  | 0 => ([], 0)
  | i + 1 => if i = s.length ∨ s[i]? = some 42 then ((psN s i).1 ++ [facX ((s.take i).drop (psN s i).2)], i + 1) else psN s i
def s22 : Spec := s21
def XT : Shapes := fun f => match f with
  | 43 => some (.val (.agg [.str, .int .i64]), none)
  | 24 | 23 | 46 => some shS
  | 21 | 22 => some shFI
  | 10 | 15 => some shB
  | 14 => some shI
  | _ => none
def sepL (l : List Fac) (i : Nat) : List UInt8 := if i = 0 then fmtF (l.take i) else fmtF (l.take i) ++ [42]
def a24 (l : List Fac) : Anns := ⟨fun k => match k with
  | 3 => some { α := Nat, slots := [0, 3, 4], nb := 0, vals := fun i => [.sl 2 (facsL l) .no, .sl 1 (bytesL (fmtF (l.take i))) (.tok 0), .int .i64 i], sS := fun i => ⟨[], [((fmtF (l.take i)).length, 5)]⟩, I := fun i => i ≤ l.length, μ := fun i => l.length - i, mint := [(3, 5)] }
  | 1000007 => some { α := Nat, slots := [0, 3, 4], nb := 0, vals := fun i => [.sl 2 (facsL l) .no, .sl 1 (bytesL (sepL l i)) (.tok 0), .int .i64 i], sS := fun i => ⟨[], [((sepL l i).length, 5)]⟩, I := fun i => i < l.length, μ := fun _ => 0, rel := fun T i => T[4]? = some (.int .i64 i) }
  | _ => none, nA⟩
def a43 (s : List UInt8) : Anns := ⟨fun k => match k with
  | 2 => some { α := Nat, slots := [0, 2, 3], nb := 1, vals := fun i => [.str s, .ptr 0 0, .int .i64 i], sS := fun _ => ⟨[some [.str [], .int .i64 0]], []⟩, I := fun i => i ≤ atP s, μ := fun i => s.length - i }
  | 1000004 => some { α := Unit, slots := [0, 2, 3], nb := 1, vals := fun _ => [.str s, .ptr 0 0, .int .i64 (atP s)], sS := fun _ => ⟨[some [.str [], .int .i64 0]], []⟩, I := fun _ => True, μ := fun _ => 0 }
  | 9 => some { α := Nat, slots := [0, 2, 3, 4, 5, 6], nb := 1, vals := fun k => [.str s, .ptr 0 0, .int .i64 (atP s), .int .i64 (foldD (s.drop (atP s + 1)) k).1, .bool (foldD (s.drop (atP s + 1)) k).2, .int .i64 ((atP s + 1 + k : Nat) : Int)], sS := fun _ => ⟨[some [.str [], .int .i64 0]], []⟩, I := fun k => atP s + 1 + k ≤ s.length ∧ k ≤ 3, μ := fun k => 3 - k }
  | 1000014 => some { α := Unit, slots := [0, 2, 3, 4, 5], nb := 1, vals := fun _ => [.str s, .ptr 0 0, .int .i64 (atP s), .int .i64 (foldD (s.drop (atP s + 1)) 3).1, .bool (foldD (s.drop (atP s + 1)) 3).2], sS := fun _ => ⟨[some [.str [], .int .i64 0]], []⟩, I := fun _ => atP s < s.length, μ := fun _ => 0, bools := [5] }
  | _ => none, nA⟩
def a22 (s : List UInt8) : Anns := ⟨fun k => match k with
  | 6 => some { α := Nat, slots := [0, 4, 5, 6], nb := 0, vals := fun i => [.str s, .sl 2 (facsL (psN s i).1) (.tok 0), .int .i64 (psN s i).2, .int .i64 i], sS := fun i => ⟨[], [((psN s i).1.length, 37)]⟩, I := fun i => i ≤ s.length + 1 ∧ (psN s i).1.length ≤ 5, μ := fun i => s.length + 1 - i, mint := [(4, 37)] }
  | 1000011 => some { α := Nat, slots := [0, 4], nb := 0, vals := fun i => [.str s, .sl 2 (facsL (psN s i).1) (.tok 0)], sS := fun i => ⟨[], [((psN s i).1.length, 37)]⟩, I := fun i => i ≤ s.length + 1 ∧ (psN s i).1.length ≤ 5 ∧ (i = s.length + 1 ∨ 4 < (psN s i).1.length), μ := fun _ => 0 }
  | _ => none, nA⟩
end Go.Abs

namespace Go.Abs
open Go.Proofs Go.RowKit
theorem w46 (m : Int) (S : Spec) (n : Int) : (pureW PU (GU m) XT (tbl [(46, S)]) (itbl []) nAn [] 46 [.int .i64 n] (.str (Lib.itoa n), [])) =
((decide (n > (-10 : Int)) = true →
    (decide (n < (10 : Int)) = true →
        (decide (n < (0 : Int)) = true →
 ((1 : Nat) = (1 : Nat) ∨ [AV.int IntKind.u8 (IntKind.u8.wrap (IntKind.i64.wrap ((48 : Int) - n)))] = []) ∧
 ∃ (l : List UInt8),
 some [UInt8.ofNat (IntKind.u8.wrap (IntKind.i64.wrap ((48 : Int) - n))).toNat] = some l ∧
 (1 : Nat) + l.length ≤ (9223372036854775807 : Nat) ∧ RetIs (AV.str ([(45 : UInt8)] ++ l)) [] (AV.str (Lib.itoa n), [])) ∧
 (decide (n < (0 : Int)) = false →
 ((1 : Nat) = (1 : Nat) ∨ [AV.int IntKind.u8 (IntKind.u8.wrap (IntKind.i64.wrap ((48 : Int) + n)))] = []) ∧
 ∃ (l : List UInt8),
 some [UInt8.ofNat (IntKind.u8.wrap (IntKind.i64.wrap ((48 : Int) + n))).toNat] = some l ∧ RetIs (AV.str l) [] (AV.str (Lib.itoa n), []))) ∧
      (decide (n < (10 : Int)) = false →
        (10 : Int) ≠ (0 : Int) ∧
 (decide (n.tmod (10 : Int) < (0 : Int)) = true →
 (10 : Int) ≠ (0 : Int) ∧
 ∃ (s : List UInt8),
 CallIs (tbl [((46 : Nat), S)] ((46 : Nat)) [AV.int IntKind.i64 (IntKind.i64.wrap (n.tdiv (10 : Int)))]) (AV.str s) [] ∧
 ((1 : Nat) = (1 : Nat) ∨
 [AV.int IntKind.u8 (IntKind.u8.wrap (IntKind.i64.wrap ((48 : Int) + IntKind.i64.wrap ((0 : Int) - n.tmod (10 : Int)))))] = []) ∧
 ∃ (l : List UInt8),
 some [UInt8.ofNat (IntKind.u8.wrap (IntKind.i64.wrap ((48 : Int) + IntKind.i64.wrap ((0 : Int) - n.tmod (10 : Int))))).toNat] = some l ∧
 s.length + l.length ≤ (9223372036854775807 : Nat) ∧ RetIs (AV.str (s ++ l)) [] (AV.str (Lib.itoa n), [])) ∧
 (decide (n.tmod (10 : Int) < (0 : Int)) = false →
 (10 : Int) ≠ (0 : Int) ∧
 ∃ (s : List UInt8),
 CallIs (tbl [((46 : Nat), S)] ((46 : Nat)) [AV.int IntKind.i64 (IntKind.i64.wrap (n.tdiv (10 : Int)))]) (AV.str s) [] ∧
 ((1 : Nat) = (1 : Nat) ∨ [AV.int IntKind.u8 (IntKind.u8.wrap (IntKind.i64.wrap ((48 : Int) + n.tmod (10 : Int))))] = []) ∧
 ∃ (l : List UInt8),
 some [UInt8.ofNat (IntKind.u8.wrap (IntKind.i64.wrap ((48 : Int) + n.tmod (10 : Int)))).toNat] = some l ∧
 s.length + l.length ≤ (9223372036854775807 : Nat) ∧ RetIs (AV.str (s ++ l)) [] (AV.str (Lib.itoa n), [])))) ∧
  (decide (n > (-10 : Int)) = false →
    (10 : Int) ≠ (0 : Int) ∧
      (decide (n.tmod (10 : Int) < (0 : Int)) = true →
 (10 : Int) ≠ (0 : Int) ∧
 ∃ (s : List UInt8),
 CallIs (tbl [((46 : Nat), S)] ((46 : Nat)) [AV.int IntKind.i64 (IntKind.i64.wrap (n.tdiv (10 : Int)))]) (AV.str s) [] ∧
 ((1 : Nat) = (1 : Nat) ∨
 [AV.int IntKind.u8 (IntKind.u8.wrap (IntKind.i64.wrap ((48 : Int) + IntKind.i64.wrap ((0 : Int) - n.tmod (10 : Int)))))] = []) ∧
 ∃ (l : List UInt8),
 some [UInt8.ofNat (IntKind.u8.wrap (IntKind.i64.wrap ((48 : Int) + IntKind.i64.wrap ((0 : Int) - n.tmod (10 : Int))))).toNat] = some l ∧
 s.length + l.length ≤ (9223372036854775807 : Nat) ∧ RetIs (AV.str (s ++ l)) [] (AV.str (Lib.itoa n), [])) ∧
        (decide (n.tmod (10 : Int) < (0 : Int)) = false →
 (10 : Int) ≠ (0 : Int) ∧
 ∃ (s : List UInt8),
 CallIs (tbl [((46 : Nat), S)] ((46 : Nat)) [AV.int IntKind.i64 (IntKind.i64.wrap (n.tdiv (10 : Int)))]) (AV.str s) [] ∧
 ((1 : Nat) = (1 : Nat) ∨ [AV.int IntKind.u8 (IntKind.u8.wrap (IntKind.i64.wrap ((48 : Int) + n.tmod (10 : Int))))] = []) ∧
 ∃ (l : List UInt8),
 some [UInt8.ofNat (IntKind.u8.wrap (IntKind.i64.wrap ((48 : Int) + n.tmod (10 : Int)))).toNat] = some l ∧
 s.length + l.length ≤ (9223372036854775807 : Nat) ∧ RetIs (AV.str (s ++ l)) [] (AV.str (Lib.itoa n), [])))) := by kernel_rfl
theorem w24 (m : Int) (K : Int) (l : List Fac) : (pureW PU (GU m) XT (tbl [(46, s46 K)]) (itbl []) (a24 l) [] 24 [.sl 2 (facsL l) .no] (.str (fmtF l), [])) =
((∃ (y : Nat),
    ValsAre [AV.sl ((2 : Nat)) (facsL l) Own.no, AV.sl ((1 : Nat)) [] (Own.tok ((0 : Nat))), AV.int IntKind.i64 (0 : Int)]
        [AV.sl ((2 : Nat)) (facsL l) Own.no, AV.sl ((1 : Nat)) (bytesL (fmtF (List.take y l))) (Own.tok ((0 : Nat))), AV.int IntKind.i64 (↑y : Int)] ∧
      StIs { boxes := [], live := [((0 : Nat), (5 : Nat))] } { boxes := [], live := [((fmtF (List.take y l)).length, (5 : Nat))] } ∧ y ≤ l.length ∧ True) ∧
  ∀ (x : Nat),
    x ≤ l.length →
      (decide ((↑x : Int) < (↑(facsL l).length : Int)) = true →
 ((decide ((↑x : Int) > (0 : Int)) = true →
 ((1 : Nat) = (1 : Nat) ∨ bytesL (fmtF (List.take x l)) = []) ∧
 ((bytesL (fmtF (List.take x l))).length + (1 : Nat)) * (2 : Nat) ≤ (70368744177664 : Nat) ∧
 (fmtF (List.take x l)).length = (bytesL (fmtF (List.take x l))).length ∧
 ∃ (y : Nat),
 ValsAre
 [AV.sl ((2 : Nat)) (facsL l) Own.no,
 AV.sl ((1 : Nat)) (bytesL (fmtF (List.take x l)) ++ [AV.int IntKind.u8 (42 : Int)]) (Own.tok ((0 : Nat))),
 AV.int IntKind.i64 (↑x : Int)]
 [AV.sl ((2 : Nat)) (facsL l) Own.no, AV.sl ((1 : Nat)) (bytesL (sepL l y)) (Own.tok ((0 : Nat))), AV.int IntKind.i64 (↑y : Int)] ∧
 StIs { boxes := [], live := [((bytesL (fmtF (List.take x l))).length + (1 : Nat), (5 : Nat))] }
 { boxes := [], live := [((sepL l y).length, (5 : Nat))] } ∧
 y < l.length ∧ some (AV.int IntKind.i64 (↑x : Int)) = some (AV.int IntKind.i64 (↑y : Int))) ∧
 (decide ((↑x : Int) > (0 : Int)) = false →
 ∃ (y : Nat),
 ValsAre
 [AV.sl ((2 : Nat)) (facsL l) Own.no, AV.sl ((1 : Nat)) (bytesL (fmtF (List.take x l))) (Own.tok ((0 : Nat))),
 AV.int IntKind.i64 (↑x : Int)]
 [AV.sl ((2 : Nat)) (facsL l) Own.no, AV.sl ((1 : Nat)) (bytesL (sepL l y)) (Own.tok ((0 : Nat))), AV.int IntKind.i64 (↑y : Int)] ∧
 StIs { boxes := [], live := [((fmtF (List.take x l)).length, (5 : Nat))] } { boxes := [], live := [((sepL l y).length, (5 : Nat))] } ∧
 y < l.length ∧ some (AV.int IntKind.i64 (↑x : Int)) = some (AV.int IntKind.i64 (↑y : Int)))) ∧
 ∀ (x_1 : Nat),
 x_1 < l.length →
 some (AV.int IntKind.i64 (↑x : Int)) = some (AV.int IntKind.i64 (↑x_1 : Int)) →
 ((0 : Int) ≤ (↑x_1 : Int) ∧ (↑x_1 : Int) < (↑(facsL l).length : Int)) ∧
 ∃ (s : List UInt8),
 takeAt PU ((9 : Nat)) (facsL l) (↑x_1 : Int).toNat ((0 : Nat)) = some (AV.str s) ∧
 ((1 : Nat) = (1 : Nat) ∨ bytesL (sepL l x_1) = []) ∧
 ((bytesL (sepL l x_1)).length + (List.map (fun (c : UInt8) => AV.int IntKind.u8 (↑c.toNat : Int)) s).length) * (2 : Nat) ≤
 (70368744177664 : Nat) ∧
 (sepL l x_1).length = (bytesL (sepL l x_1)).length ∧
 ((0 : Int) ≤ (↑x_1 : Int) ∧ (↑x_1 : Int) < (↑(facsL l).length : Int)) ∧
 ∃ (n : Int),
 takeAt PU ((3 : Nat)) (facsL l) (↑x_1 : Int).toNat ((1 : Nat)) = some (AV.int IntKind.i64 n) ∧
 ((n != (1 : Int)) = true →
 ((1 : Nat) = (1 : Nat) ∨
 bytesL (sepL l x_1) ++ List.map (fun (c : UInt8) => AV.int IntKind.u8 (↑c.toNat : Int)) s = []) ∧
 ((bytesL (sepL l x_1) ++ List.map (fun (c : UInt8) => AV.int IntKind.u8 (↑c.toNat : Int)) s).length + (1 : Nat)) *
 (2 : Nat) ≤
 (70368744177664 : Nat) ∧
 (bytesL (sepL l x_1)).length + (List.map (fun (c : UInt8) => AV.int IntKind.u8 (↑c.toNat : Int)) s).length =
 (bytesL (sepL l x_1) ++ List.map (fun (c : UInt8) => AV.int IntKind.u8 (↑c.toNat : Int)) s).length ∧
 ((0 : Int) ≤ (↑x_1 : Int) ∧ (↑x_1 : Int) < (↑(facsL l).length : Int)) ∧
 ∃ (n : Int),
 takeAt PU ((3 : Nat)) (facsL l) (↑x_1 : Int).toNat ((1 : Nat)) = some (AV.int IntKind.i64 n) ∧
 ∃ (s_1 : List UInt8),
 CallIs (tbl [((46 : Nat), s46 K)] ((46 : Nat)) [AV.int IntKind.i64 n]) (AV.str s_1) [] ∧
 ((1 : Nat) = (1 : Nat) ∨
 bytesL (sepL l x_1) ++ List.map (fun (c : UInt8) => AV.int IntKind.u8 (↑c.toNat : Int)) s ++
 [AV.int IntKind.u8 (94 : Int)] =
 []) ∧
 ((bytesL (sepL l x_1) ++ List.map (fun (c : UInt8) => AV.int IntKind.u8 (↑c.toNat : Int)) s ++
 [AV.int IntKind.u8 (94 : Int)]).length +
 (List.map (fun (c : UInt8) => AV.int IntKind.u8 (↑c.toNat : Int)) s_1).length) *
 (2 : Nat) ≤
 (70368744177664 : Nat) ∧
 (bytesL (sepL l x_1) ++ List.map (fun (c : UInt8) => AV.int IntKind.u8 (↑c.toNat : Int)) s).length +
 (1 : Nat) =
 (bytesL (sepL l x_1) ++ List.map (fun (c : UInt8) => AV.int IntKind.u8 (↑c.toNat : Int)) s ++
 [AV.int IntKind.u8 (94 : Int)]).length ∧
 ∃ (y : Nat),
 ValsAre
 [AV.sl ((2 : Nat)) (facsL l) Own.no,
 AV.sl ((1 : Nat))
 (bytesL (sepL l x_1) ++
 List.map (fun (c : UInt8) => AV.int IntKind.u8 (↑c.toNat : Int)) s ++
 [AV.int IntKind.u8 (94 : Int)] ++
 List.map (fun (c : UInt8) => AV.int IntKind.u8 (↑c.toNat : Int)) s_1)
 (Own.tok ((0 : Nat))),
 AV.int IntKind.i64 (IntKind.i64.wrap ((↑x_1 : Int) + (1 : Int)))]
 [AV.sl ((2 : Nat)) (facsL l) Own.no,
 AV.sl ((1 : Nat)) (bytesL (fmtF (List.take y l))) (Own.tok ((0 : Nat))),
 AV.int IntKind.i64 (↑y : Int)] ∧
 StIs
 { boxes := [], live := [((bytesL (sepL l x_1) ++ List.map (fun (c : UInt8) => AV.int IntKind.u8 (↑c.toNat : Int)) s ++ [AV.int IntKind.u8 (94 : Int)]).length + (List.map (fun (c : UInt8) => AV.int IntKind.u8 (↑c.toNat : Int)) s_1).length, (5 : Nat))] }
 { boxes := [], live := [((fmtF (List.take y l)).length, (5 : Nat))] } ∧
 y ≤ l.length ∧ l.length - y < l.length - x) ∧
 ((n != (1 : Int)) = false →
 ∃ (y : Nat),
 ValsAre
 [AV.sl ((2 : Nat)) (facsL l) Own.no,
 AV.sl ((1 : Nat)) (bytesL (sepL l x_1) ++ List.map (fun (c : UInt8) => AV.int IntKind.u8 (↑c.toNat : Int)) s)
 (Own.tok ((0 : Nat))),
 AV.int IntKind.i64 (IntKind.i64.wrap ((↑x_1 : Int) + (1 : Int)))]
 [AV.sl ((2 : Nat)) (facsL l) Own.no, AV.sl ((1 : Nat)) (bytesL (fmtF (List.take y l))) (Own.tok ((0 : Nat))),
 AV.int IntKind.i64 (↑y : Int)] ∧
 StIs
 { boxes := [], live := [((bytesL (sepL l x_1)).length + (List.map (fun (c : UInt8) => AV.int IntKind.u8 (↑c.toNat : Int)) s).length, (5 : Nat))] }
 { boxes := [], live := [((fmtF (List.take y l)).length, (5 : Nat))] } ∧
 y ≤ l.length ∧ l.length - y < l.length - x)) ∧
        (decide ((↑x : Int) < (↑(facsL l).length : Int)) = false →
 ((1 : Nat) = (1 : Nat) ∨ bytesL (fmtF (List.take x l)) = []) ∧
 ∃ (l_1 : List UInt8), List.mapM byteOf (bytesL (fmtF (List.take x l))) = some l_1 ∧ RetIs (AV.str l_1) [] (AV.str (fmtF l), []))) := by kernel_rfl
theorem w43 (m : Int) (s : List UInt8) : (pureW PU (GU m) XT (tbl []) (itbl []) (a43 s) [] 43 [.str s] (facA (facX s), [])) =
(((∃ (y : Nat),
      ValsAre [AV.str s, AV.ptr ((0 : Nat)) ((0 : Nat)), AV.int IntKind.i64 (0 : Int)]
 [AV.str s, AV.ptr ((0 : Nat)) ((0 : Nat)), AV.int IntKind.i64 (↑y : Int)] ∧
        StIs { boxes := [some [AV.str [], AV.int IntKind.i64 (0 : Int)]], live := [] }
 { boxes := [some [AV.str [], AV.int IntKind.i64 (0 : Int)]], live := [] } ∧
 y ≤ atP s ∧ True) ∧
    ∀ (x : Nat),
      x ≤ atP s →
        (decide ((↑x : Int) < (↑s.length : Int)) = true →
 (0 : Int) ≤ (↑x : Int) ∧
 ∃ (c : UInt8),
 s[(↑x : Int).toNat]? = some c ∧
 (((↑c.toNat : Int) != (94 : Int)) = true →
 ∃ (y : Nat),
 ValsAre [AV.str s, AV.ptr ((0 : Nat)) ((0 : Nat)), AV.int IntKind.i64 (IntKind.i64.wrap ((↑x : Int) + (1 : Int)))]
 [AV.str s, AV.ptr ((0 : Nat)) ((0 : Nat)), AV.int IntKind.i64 (↑y : Int)] ∧
 StIs { boxes := [some [AV.str [], AV.int IntKind.i64 (0 : Int)]], live := [] }
 { boxes := [some [AV.str [], AV.int IntKind.i64 (0 : Int)]], live := [] } ∧
 y ≤ atP s ∧ s.length - y < s.length - x) ∧
 (((↑c.toNat : Int) != (94 : Int)) = false →
 ∃ (_y : Unit),
 ValsAre [AV.str s, AV.ptr ((0 : Nat)) ((0 : Nat)), AV.int IntKind.i64 (↑x : Int)]
 [AV.str s, AV.ptr ((0 : Nat)) ((0 : Nat)), AV.int IntKind.i64 (↑(atP s) : Int)] ∧
 StIs { boxes := [some [AV.str [], AV.int IntKind.i64 (0 : Int)]], live := [] }
 { boxes := [some [AV.str [], AV.int IntKind.i64 (0 : Int)]], live := [] } ∧
 True ∧ True)) ∧
 (decide ((↑x : Int) < (↑s.length : Int)) = false →
 ∃ (_y : Unit),
 ValsAre [AV.str s, AV.ptr ((0 : Nat)) ((0 : Nat)), AV.int IntKind.i64 (↑x : Int)]
 [AV.str s, AV.ptr ((0 : Nat)) ((0 : Nat)), AV.int IntKind.i64 (↑(atP s) : Int)] ∧
 StIs { boxes := [some [AV.str [], AV.int IntKind.i64 (0 : Int)]], live := [] }
 { boxes := [some [AV.str [], AV.int IntKind.i64 (0 : Int)]], live := [] } ∧
 True ∧ True)) ∧
  ∀ (_x : Unit),
    True →
      True →
        (((↑(atP s) : Int) == (↑s.length : Int)) = true →
 RetIs (AV.agg [AV.str s, AV.int IntKind.i64 (1 : Int)]) [] (AV.agg [AV.str (facX s).s, AV.int IntKind.i64 (facX s).e], [])) ∧
 (((↑(atP s) : Int) == (↑s.length : Int)) = false →
 ((∃ (y : Nat),
 ValsAre
 [AV.str s, AV.ptr ((0 : Nat)) ((0 : Nat)), AV.int IntKind.i64 (↑(atP s) : Int), AV.int IntKind.i64 (0 : Int), AV.bool false,
 AV.int IntKind.i64 (IntKind.i64.wrap ((↑(atP s) : Int) + (1 : Int)))]
 [AV.str s, AV.ptr ((0 : Nat)) ((0 : Nat)), AV.int IntKind.i64 (↑(atP s) : Int),
 AV.int IntKind.i64 (foldD (List.drop (atP s + (1 : Nat)) s) y).fst, AV.bool (foldD (List.drop (atP s + (1 : Nat)) s) y).snd,
 AV.int IntKind.i64 (↑(atP s + (1 : Nat) + y) : Int)] ∧
 StIs { boxes := [some [AV.str [], AV.int IntKind.i64 (0 : Int)]], live := [] }
 { boxes := [some [AV.str [], AV.int IntKind.i64 (0 : Int)]], live := [] } ∧
 (atP s + (1 : Nat) + y ≤ s.length ∧ y ≤ (3 : Nat)) ∧ True) ∧
 ∀ (x : Nat),
 atP s + (1 : Nat) + x ≤ s.length ∧ x ≤ (3 : Nat) →
 (decide ((↑(atP s + (1 : Nat) + x) : Int) < (↑s.length : Int)) = true →
 (decide ((↑(atP s + (1 : Nat) + x) : Int) < IntKind.i64.wrap ((↑(atP s) : Int) + (4 : Int))) = true →
 (0 : Int) ≤ (↑(atP s + (1 : Nat) + x) : Int) ∧
 ∃ (c : UInt8),
 s[(↑(atP s + (1 : Nat) + x) : Int).toNat]? = some c ∧
 (((↑c.toNat : Int) == (45 : Int)) = true →
 ∃ (y : Nat),
 ValsAre
 [AV.str s, AV.ptr ((0 : Nat)) ((0 : Nat)), AV.int IntKind.i64 (↑(atP s) : Int),
 AV.int IntKind.i64 (foldD (List.drop (atP s + (1 : Nat)) s) x).fst, AV.bool true,
 AV.int IntKind.i64 (IntKind.i64.wrap ((↑(atP s + (1 : Nat) + x) : Int) + (1 : Int)))]
 [AV.str s, AV.ptr ((0 : Nat)) ((0 : Nat)), AV.int IntKind.i64 (↑(atP s) : Int),
 AV.int IntKind.i64 (foldD (List.drop (atP s + (1 : Nat)) s) y).fst,
 AV.bool (foldD (List.drop (atP s + (1 : Nat)) s) y).snd, AV.int IntKind.i64 (↑(atP s + (1 : Nat) + y) : Int)] ∧
 StIs { boxes := [some [AV.str [], AV.int IntKind.i64 (0 : Int)]], live := [] }
 { boxes := [some [AV.str [], AV.int IntKind.i64 (0 : Int)]], live := [] } ∧
 (atP s + (1 : Nat) + y ≤ s.length ∧ y ≤ (3 : Nat)) ∧ (3 : Nat) - y < (3 : Nat) - x) ∧
 (((↑c.toNat : Int) == (45 : Int)) = false →
 (0 : Int) ≤ (↑(atP s + (1 : Nat) + x) : Int) ∧
 ∃ (c : UInt8),
 s[(↑(atP s + (1 : Nat) + x) : Int).toNat]? = some c ∧
 ∃ (y : Nat),
 ValsAre
 [AV.str s, AV.ptr ((0 : Nat)) ((0 : Nat)), AV.int IntKind.i64 (↑(atP s) : Int),
 AV.int IntKind.i64
 (IntKind.i64.wrap
 (IntKind.i64.wrap
 (IntKind.i64.wrap ((10 : Int) * (foldD (List.drop (atP s + (1 : Nat)) s) x).fst) +
 IntKind.i64.wrap (↑c.toNat : Int)) -
 (48 : Int))),
 AV.bool (foldD (List.drop (atP s + (1 : Nat)) s) x).snd,
 AV.int IntKind.i64 (IntKind.i64.wrap ((↑(atP s + (1 : Nat) + x) : Int) + (1 : Int)))]
 [AV.str s, AV.ptr ((0 : Nat)) ((0 : Nat)), AV.int IntKind.i64 (↑(atP s) : Int),
 AV.int IntKind.i64 (foldD (List.drop (atP s + (1 : Nat)) s) y).fst,
 AV.bool (foldD (List.drop (atP s + (1 : Nat)) s) y).snd,
 AV.int IntKind.i64 (↑(atP s + (1 : Nat) + y) : Int)] ∧
 StIs { boxes := [some [AV.str [], AV.int IntKind.i64 (0 : Int)]], live := [] }
 { boxes := [some [AV.str [], AV.int IntKind.i64 (0 : Int)]], live := [] } ∧
 (atP s + (1 : Nat) + y ≤ s.length ∧ y ≤ (3 : Nat)) ∧ (3 : Nat) - y < (3 : Nat) - x)) ∧
 (decide ((↑(atP s + (1 : Nat) + x) : Int) < IntKind.i64.wrap ((↑(atP s) : Int) + (4 : Int))) = false →
 ∃ (_y : Unit),
 ValsAre
 [AV.str s, AV.ptr ((0 : Nat)) ((0 : Nat)), AV.int IntKind.i64 (↑(atP s) : Int),
 AV.int IntKind.i64 (foldD (List.drop (atP s + (1 : Nat)) s) x).fst, AV.bool (foldD (List.drop (atP s + (1 : Nat)) s) x).snd]
 [AV.str s, AV.ptr ((0 : Nat)) ((0 : Nat)), AV.int IntKind.i64 (↑(atP s) : Int),
 AV.int IntKind.i64 (foldD (List.drop (atP s + (1 : Nat)) s) ((3 : Nat))).fst,
 AV.bool (foldD (List.drop (atP s + (1 : Nat)) s) ((3 : Nat))).snd] ∧
 StIs { boxes := [some [AV.str [], AV.int IntKind.i64 (0 : Int)]], live := [] }
 { boxes := [some [AV.str [], AV.int IntKind.i64 (0 : Int)]], live := [] } ∧
 atP s < s.length ∧ True)) ∧
 (decide ((↑(atP s + (1 : Nat) + x) : Int) < (↑s.length : Int)) = false →
 ∃ (_y : Unit),
 ValsAre
 [AV.str s, AV.ptr ((0 : Nat)) ((0 : Nat)), AV.int IntKind.i64 (↑(atP s) : Int),
 AV.int IntKind.i64 (foldD (List.drop (atP s + (1 : Nat)) s) x).fst, AV.bool (foldD (List.drop (atP s + (1 : Nat)) s) x).snd]
 [AV.str s, AV.ptr ((0 : Nat)) ((0 : Nat)), AV.int IntKind.i64 (↑(atP s) : Int),
 AV.int IntKind.i64 (foldD (List.drop (atP s + (1 : Nat)) s) ((3 : Nat))).fst,
 AV.bool (foldD (List.drop (atP s + (1 : Nat)) s) ((3 : Nat))).snd] ∧
 StIs { boxes := [some [AV.str [], AV.int IntKind.i64 (0 : Int)]], live := [] }
 { boxes := [some [AV.str [], AV.int IntKind.i64 (0 : Int)]], live := [] } ∧
 atP s < s.length ∧ True)) ∧
 ∀ (_x : Unit),
 atP s < s.length →
 True →
 ((foldD (List.drop (atP s + (1 : Nat)) s) ((3 : Nat))).snd = true →
 (0 : Int) ≤ (↑(atP s) : Int) ∧
 ((0 : Nat) ≤ (↑(atP s) : Int).toNat ∧ (↑(atP s) : Int).toNat ≤ s.length) ∧
 RetIs
 (AV.agg
 [AV.str (List.drop ((0 : Nat)) (List.take (↑(atP s) : Int).toNat s)),
 AV.int IntKind.i64 (IntKind.i64.wrap ((0 : Int) - (foldD (List.drop (atP s + (1 : Nat)) s) ((3 : Nat))).fst))])
 [] (AV.agg [AV.str (facX s).s, AV.int IntKind.i64 (facX s).e], [])) ∧
 ((foldD (List.drop (atP s + (1 : Nat)) s) ((3 : Nat))).snd = false →
 (0 : Int) ≤ (↑(atP s) : Int) ∧
 ((0 : Nat) ≤ (↑(atP s) : Int).toNat ∧ (↑(atP s) : Int).toNat ≤ s.length) ∧
 RetIs
 (AV.agg
 [AV.str (List.drop ((0 : Nat)) (List.take (↑(atP s) : Int).toNat s)),
 AV.int IntKind.i64 (foldD (List.drop (atP s + (1 : Nat)) s) ((3 : Nat))).fst])
 [] (AV.agg [AV.str (facX s).s, AV.int IntKind.i64 (facX s).e], [])))) := by kernel_rfl
theorem w22 (m : Int) (s : List UInt8) : (laxW PU (GU m) XT (tbl [(43, s43), (14, s14), (24, s24)]) (itbl []) (a22 s) [] 22 [.str s] (facR (parseP s))) =
((((↑s.length : Int) == (0 : Int)) = true →
    RetLax (AV.tup [AV.sl ((0 : Nat)) [] Own.nil, AV.int IntKind.i64 (0 : Int)])
      (AV.tup [AV.sl ((2 : Nat)) (facsL (parseP s).fst) Own.no, AV.int IntKind.i64 (parseP s).snd], [])) ∧
  (((↑s.length : Int) == (0 : Int)) = false →
    ((∃ (y : Nat),
 ValsAre [AV.str s, AV.sl ((2 : Nat)) [] (Own.tok ((0 : Nat))), AV.int IntKind.i64 (0 : Int), AV.int IntKind.i64 (0 : Int)]
 [AV.str s, AV.sl ((2 : Nat)) (facsL (psN s y).fst) (Own.tok ((0 : Nat))), AV.int IntKind.i64 (↑(psN s y).snd : Int),
 AV.int IntKind.i64 (↑y : Int)] ∧
 StIs { boxes := [], live := [((0 : Nat), (37 : Nat))] } { boxes := [], live := [((psN s y).fst.length, (37 : Nat))] } ∧
 (y ≤ s.length + (1 : Nat) ∧ (psN s y).fst.length ≤ (5 : Nat)) ∧ True) ∧
        ∀ (x : Nat),
 x ≤ s.length + (1 : Nat) ∧ (psN s x).fst.length ≤ (5 : Nat) →
 (decide ((↑x : Int) ≤ (↑s.length : Int)) = true →
 (decide ((↑(facsL (psN s x).fst).length : Int) ≤ (4 : Int)) = true →
 (((↑x : Int) == (↑s.length : Int)) = true →
 (0 : Int) ≤ (↑(psN s x).snd : Int) ∧
 (0 : Int) ≤ (↑x : Int) ∧
 ((↑(psN s x).snd : Int).toNat ≤ (↑x : Int).toNat ∧ (↑x : Int).toNat ≤ s.length) ∧
 ∃ (s_1 : List UInt8),
 ∃ (n : Int),
 CallIs
 (tbl [((43 : Nat), s43), ((14 : Nat), s14), ((24 : Nat), s24)] ((43 : Nat))
 [AV.str (List.drop (↑(psN s x).snd : Int).toNat (List.take (↑x : Int).toNat s))])
 (AV.agg [AV.str s_1, AV.int IntKind.i64 n]) [] ∧
 ((2 : Nat) = (2 : Nat) ∨ facsL (psN s x).fst = []) ∧
 ((facsL (psN s x).fst).length + (1 : Nat)) * (25 : Nat) ≤ (70368744177664 : Nat) ∧
 (psN s x).fst.length = (facsL (psN s x).fst).length ∧
 ∃ (y : Nat),
 ValsAre
 [AV.str s,
 AV.sl ((2 : Nat)) (facsL (psN s x).fst ++ [AV.agg [AV.str s_1, AV.int IntKind.i64 n]]) (Own.tok ((0 : Nat))),
 AV.int IntKind.i64 (IntKind.i64.wrap ((↑x : Int) + (1 : Int))),
 AV.int IntKind.i64 (IntKind.i64.wrap ((↑x : Int) + (1 : Int)))]
 [AV.str s, AV.sl ((2 : Nat)) (facsL (psN s y).fst) (Own.tok ((0 : Nat))),
 AV.int IntKind.i64 (↑(psN s y).snd : Int), AV.int IntKind.i64 (↑y : Int)] ∧
 StIs { boxes := [], live := [((facsL (psN s x).fst).length + (1 : Nat), (37 : Nat))] }
 { boxes := [], live := [((psN s y).fst.length, (37 : Nat))] } ∧
 (y ≤ s.length + (1 : Nat) ∧ (psN s y).fst.length ≤ (5 : Nat)) ∧
 s.length + (1 : Nat) - y < s.length + (1 : Nat) - x) ∧
 (((↑x : Int) == (↑s.length : Int)) = false →
 (0 : Int) ≤ (↑x : Int) ∧
 ∃ (c : UInt8),
 s[(↑x : Int).toNat]? = some c ∧
 (((↑c.toNat : Int) == (42 : Int)) = true →
 (0 : Int) ≤ (↑(psN s x).snd : Int) ∧
 (0 : Int) ≤ (↑x : Int) ∧
 ((↑(psN s x).snd : Int).toNat ≤ (↑x : Int).toNat ∧ (↑x : Int).toNat ≤ s.length) ∧
 ∃ (s_1 : List UInt8),
 ∃ (n : Int),
 CallIs
 (tbl [((43 : Nat), s43), ((14 : Nat), s14), ((24 : Nat), s24)] ((43 : Nat))
 [AV.str (List.drop (↑(psN s x).snd : Int).toNat (List.take (↑x : Int).toNat s))])
 (AV.agg [AV.str s_1, AV.int IntKind.i64 n]) [] ∧
 ((2 : Nat) = (2 : Nat) ∨ facsL (psN s x).fst = []) ∧
 ((facsL (psN s x).fst).length + (1 : Nat)) * (25 : Nat) ≤ (70368744177664 : Nat) ∧
 (psN s x).fst.length = (facsL (psN s x).fst).length ∧
 ∃ (y : Nat),
 ValsAre
 [AV.str s,
 AV.sl ((2 : Nat)) (facsL (psN s x).fst ++ [AV.agg [AV.str s_1, AV.int IntKind.i64 n]])
 (Own.tok ((0 : Nat))),
 AV.int IntKind.i64 (IntKind.i64.wrap ((↑x : Int) + (1 : Int))),
 AV.int IntKind.i64 (IntKind.i64.wrap ((↑x : Int) + (1 : Int)))]
 [AV.str s, AV.sl ((2 : Nat)) (facsL (psN s y).fst) (Own.tok ((0 : Nat))),
 AV.int IntKind.i64 (↑(psN s y).snd : Int), AV.int IntKind.i64 (↑y : Int)] ∧
 StIs { boxes := [], live := [((facsL (psN s x).fst).length + (1 : Nat), (37 : Nat))] }
 { boxes := [], live := [((psN s y).fst.length, (37 : Nat))] } ∧
 (y ≤ s.length + (1 : Nat) ∧ (psN s y).fst.length ≤ (5 : Nat)) ∧
 s.length + (1 : Nat) - y < s.length + (1 : Nat) - x) ∧
 (((↑c.toNat : Int) == (42 : Int)) = false →
 ∃ (y : Nat),
 ValsAre
 [AV.str s, AV.sl ((2 : Nat)) (facsL (psN s x).fst) (Own.tok ((0 : Nat))), AV.int IntKind.i64 (↑(psN s x).snd : Int),
 AV.int IntKind.i64 (IntKind.i64.wrap ((↑x : Int) + (1 : Int)))]
 [AV.str s, AV.sl ((2 : Nat)) (facsL (psN s y).fst) (Own.tok ((0 : Nat))), AV.int IntKind.i64 (↑(psN s y).snd : Int),
 AV.int IntKind.i64 (↑y : Int)] ∧
 StIs { boxes := [], live := [((psN s x).fst.length, (37 : Nat))] }
 { boxes := [], live := [((psN s y).fst.length, (37 : Nat))] } ∧
 (y ≤ s.length + (1 : Nat) ∧ (psN s y).fst.length ≤ (5 : Nat)) ∧ s.length + (1 : Nat) - y < s.length + (1 : Nat) - x))) ∧
 (decide ((↑(facsL (psN s x).fst).length : Int) ≤ (4 : Int)) = false →
 ∃ (y : Nat),
 ValsAre [AV.str s, AV.sl ((2 : Nat)) (facsL (psN s x).fst) (Own.tok ((0 : Nat)))]
 [AV.str s, AV.sl ((2 : Nat)) (facsL (psN s y).fst) (Own.tok ((0 : Nat)))] ∧
 StIs { boxes := [], live := [((psN s x).fst.length, (37 : Nat))] } { boxes := [], live := [((psN s y).fst.length, (37 : Nat))] } ∧
 (y ≤ s.length + (1 : Nat) ∧ (psN s y).fst.length ≤ (5 : Nat) ∧ (y = s.length + (1 : Nat) ∨ (4 : Nat) < (psN s y).fst.length)) ∧
 True)) ∧
 (decide ((↑x : Int) ≤ (↑s.length : Int)) = false →
 ∃ (y : Nat),
 ValsAre [AV.str s, AV.sl ((2 : Nat)) (facsL (psN s x).fst) (Own.tok ((0 : Nat)))]
 [AV.str s, AV.sl ((2 : Nat)) (facsL (psN s y).fst) (Own.tok ((0 : Nat)))] ∧
 StIs { boxes := [], live := [((psN s x).fst.length, (37 : Nat))] } { boxes := [], live := [((psN s y).fst.length, (37 : Nat))] } ∧
 (y ≤ s.length + (1 : Nat) ∧ (psN s y).fst.length ≤ (5 : Nat) ∧ (y = s.length + (1 : Nat) ∨ (4 : Nat) < (psN s y).fst.length)) ∧ True)) ∧
      ∀ (x : Nat),
        x ≤ s.length + (1 : Nat) ∧ (psN s x).fst.length ≤ (5 : Nat) ∧ (x = s.length + (1 : Nat) ∨ (4 : Nat) < (psN s x).fst.length) →
 True →
 ∃ (n : Int),
 CallIs (tbl [((43 : Nat), s43), ((14 : Nat), s14), ((24 : Nat), s24)] ((14 : Nat)) [AV.sl ((2 : Nat)) (facsL (psN s x).fst) Own.no])
 (AV.int IntKind.i64 n) [] ∧
 ((n != (0 : Int)) = true →
 RetLax (AV.tup [AV.sl ((0 : Nat)) [] Own.nil, AV.int IntKind.i64 (3 : Int)])
 (AV.tup [AV.sl ((2 : Nat)) (facsL (parseP s).fst) Own.no, AV.int IntKind.i64 (parseP s).snd], [])) ∧
 ((n != (0 : Int)) = false →
 ∃ (s_1 : List UInt8),
 CallIs (tbl [((43 : Nat), s43), ((14 : Nat), s14), ((24 : Nat), s24)] ((24 : Nat)) [AV.sl ((2 : Nat)) (facsL (psN s x).fst) Own.no])
 (AV.str s_1) [] ∧
 ((!s_1 == s) = true →
 RetLax (AV.tup [AV.sl ((0 : Nat)) [] Own.nil, AV.int IntKind.i64 (3 : Int)])
 (AV.tup [AV.sl ((2 : Nat)) (facsL (parseP s).fst) Own.no, AV.int IntKind.i64 (parseP s).snd], [])) ∧
 ((!s_1 == s) = false →
 RetLax (AV.tup [AV.sl ((2 : Nat)) (facsL (psN s x).fst) (Own.tok ((0 : Nat))), AV.int IntKind.i64 (0 : Int)])
 (AV.tup [AV.sl ((2 : Nat)) (facsL (parseP s).fst) Own.no, AV.int IntKind.i64 (parseP s).snd], []))))) := by kernel_rfl
theorem w5 (m : Int) (l : List Fac) (s : List UInt8) : (pureW PU (GU m) XT (tbl [(10, s10), (21, s21), (22, s22), (23, s23g), (24, s24), (15, s15)]) (itbl []) nAn [] 5 [.sl 2 (facsL l) .no, .str s] (.bool true, [])) =
(∃ (b : Bool),
  CallIs (some (AV.bool true, [])) (AV.bool b) [] ∧
    (b = true →
        ∃ (es : List AV),
 ∃ (n : Int),
 CallIs
 (tbl [((10 : Nat), s10), ((21 : Nat), s21), ((22 : Nat), s22), ((23 : Nat), s23g), ((24 : Nat), s24), ((15 : Nat), s15)] ((21 : Nat))
 [AV.str s])
 (AV.tup [AV.sl ((2 : Nat)) es Own.no, AV.int IntKind.i64 n]) [] ∧
 ∃ (es_1 : List AV),
 ∃ (n_1 : Int),
 CallIs
 (tbl [((10 : Nat), s10), ((21 : Nat), s21), ((22 : Nat), s22), ((23 : Nat), s23g), ((24 : Nat), s24), ((15 : Nat), s15)] ((22 : Nat))
 [AV.str s])
 (AV.tup [AV.sl ((2 : Nat)) es_1 Own.no, AV.int IntKind.i64 n_1]) [] ∧
 ∃ (s : List UInt8),
 CallIs
 (tbl [((10 : Nat), s10), ((21 : Nat), s21), ((22 : Nat), s22), ((23 : Nat), s23g), ((24 : Nat), s24), ((15 : Nat), s15)] ((23 : Nat))
 [AV.sl ((2 : Nat)) (facsL l) Own.no])
 (AV.str s) [] ∧
 ∃ (es_2 : List AV),
 ∃ (n_2 : Int),
 CallIs
 (tbl [((10 : Nat), s10), ((21 : Nat), s21), ((22 : Nat), s22), ((23 : Nat), s23g), ((24 : Nat), s24), ((15 : Nat), s15)]
 ((21 : Nat)) [AV.str s])
 (AV.tup [AV.sl ((2 : Nat)) es_2 Own.no, AV.int IntKind.i64 n_2]) [] ∧
 ∃ (es_3 : List AV),
 ∃ (n_3 : Int),
 CallIs
 (tbl [((10 : Nat), s10), ((21 : Nat), s21), ((22 : Nat), s22), ((23 : Nat), s23g), ((24 : Nat), s24), ((15 : Nat), s15)]
 ((22 : Nat)) [AV.str s])
 (AV.tup [AV.sl ((2 : Nat)) es_3 Own.no, AV.int IntKind.i64 n_3]) [] ∧
 ((n == n_1) = true →
 ∃ (b : Bool),
 CallIs
 (tbl
 [((10 : Nat), s10), ((21 : Nat), s21), ((22 : Nat), s22), ((23 : Nat), s23g), ((24 : Nat), s24),
 ((15 : Nat), s15)]
 ((15 : Nat)) [AV.sl ((2 : Nat)) es Own.no, AV.sl ((2 : Nat)) es_1 Own.no])
 (AV.bool b) [] ∧
 (b = true →
 ∃ (s_1 : List UInt8),
 CallIs
 (tbl
 [((10 : Nat), s10), ((21 : Nat), s21), ((22 : Nat), s22), ((23 : Nat), s23g), ((24 : Nat), s24),
 ((15 : Nat), s15)]
 ((24 : Nat)) [AV.sl ((2 : Nat)) (facsL l) Own.no])
 (AV.str s_1) [] ∧
 ((s == s_1) = true →
 ((n_2 == n_3) = true →
 ∃ (b : Bool),
 CallIs
 (tbl
 [((10 : Nat), s10), ((21 : Nat), s21), ((22 : Nat), s22), ((23 : Nat), s23g),
 ((24 : Nat), s24), ((15 : Nat), s15)]
 ((15 : Nat)) [AV.sl ((2 : Nat)) es_2 Own.no, AV.sl ((2 : Nat)) es_3 Own.no])
 (AV.bool b) [] ∧
 (b = true → RetIs (AV.bool true) [] (AV.bool true, [])) ∧
 (b = false → RetIs (AV.bool false) [] (AV.bool true, []))) ∧
 ((n_2 == n_3) = false → RetIs (AV.bool false) [] (AV.bool true, []))) ∧
 ((s == s_1) = false → RetIs (AV.bool false) [] (AV.bool true, []))) ∧
 (b = false → RetIs (AV.bool false) [] (AV.bool true, []))) ∧
 ((n == n_1) = false → RetIs (AV.bool false) [] (AV.bool true, []))) ∧
      (b = false →
        ∃ (es : List AV),
 ∃ (n : Int),
 CallIs
 (tbl [((10 : Nat), s10), ((21 : Nat), s21), ((22 : Nat), s22), ((23 : Nat), s23g), ((24 : Nat), s24), ((15 : Nat), s15)] ((21 : Nat))
 [AV.str s])
 (AV.tup [AV.sl ((2 : Nat)) es Own.no, AV.int IntKind.i64 n]) [] ∧
 ∃ (es : List AV),
 ∃ (n : Int),
 CallIs
 (tbl [((10 : Nat), s10), ((21 : Nat), s21), ((22 : Nat), s22), ((23 : Nat), s23g), ((24 : Nat), s24), ((15 : Nat), s15)] ((22 : Nat))
 [AV.str s])
 (AV.tup [AV.sl ((2 : Nat)) es Own.no, AV.int IntKind.i64 n]) [] ∧
 ∃ (s : List UInt8),
 CallIs
 (tbl [((10 : Nat), s10), ((21 : Nat), s21), ((22 : Nat), s22), ((23 : Nat), s23g), ((24 : Nat), s24), ((15 : Nat), s15)] ((23 : Nat))
 [AV.sl ((2 : Nat)) (facsL l) Own.no])
 (AV.str s) [] ∧
 ∃ (es : List AV),
 ∃ (n : Int),
 CallIs
 (tbl [((10 : Nat), s10), ((21 : Nat), s21), ((22 : Nat), s22), ((23 : Nat), s23g), ((24 : Nat), s24), ((15 : Nat), s15)]
 ((21 : Nat)) [AV.str s])
 (AV.tup [AV.sl ((2 : Nat)) es Own.no, AV.int IntKind.i64 n]) [] ∧
 ∃ (es : List AV),
 ∃ (n : Int),
 CallIs
 (tbl [((10 : Nat), s10), ((21 : Nat), s21), ((22 : Nat), s22), ((23 : Nat), s23g), ((24 : Nat), s24), ((15 : Nat), s15)]
 ((22 : Nat)) [AV.str s])
 (AV.tup [AV.sl ((2 : Nat)) es Own.no, AV.int IntKind.i64 n]) [] ∧
 RetIs (AV.bool false) [] (AV.bool true, []))) := by kernel_rfl
end Go.Abs

namespace Go.Abs
open Go.Proofs Go.RowKit
def scanS (cur : List UInt8) : List UInt8 → List (List UInt8)
  | [] => [cur]
  | c :: t => if c = 42 then cur :: scanS [] t else scanS (cur ++ [c]) t
theorem ps_scan (s : List UInt8) : ∀ i, i ≤ s.length → (psN s i).2 ≤ i ∧ (psN s i).1 ++ (scanS ((s.take i).drop (psN s i).2) (s.drop i)).map facX = (scanS [] s).map facX
  | 0, _ => ⟨Nat.le_refl _, by simp [psN]⟩
  | i + 1, h => by
    obtain ⟨h1, h2⟩ := ps_scan s i (by omega)
    have hlt : i < s.length := by omega
    have hg := List.getElem?_eq_getElem hlt
    have hd : s.drop i = s[i] :: s.drop (i + 1) := List.drop_eq_getElem_cons hlt
    rw [hd] at h2
    have ht : s.take (i + 1) = s.take i ++ [s[i]] := by rw [List.take_add_one, hg]; rfl
    have hl : (s.take i).length = i := by rw [List.length_take]; omega
    generalize s[i] = c at *
    simp only [psN]
    by_cases hc : c = 42
    · subst hc
      rw [if_pos (.inr hg)]
      refine ⟨Nat.le_refl _, ?_⟩
      rw [← h2]
      have e : (s.take (i + 1)).drop (i + 1) = [] := List.drop_eq_nil_of_le (by rw [List.length_take]; omega)
      simp only [e, scanS, if_true, List.map_cons, List.append_assoc, List.singleton_append]
    · rw [if_neg (by rintro (h | h); · omega
                     · rw [hg] at h; injection h with h; exact hc h)]
      refine ⟨by omega, ?_⟩
      rw [← h2]
      have e : (s.take (i + 1)).drop (psN s i).2 = (s.take i).drop (psN s i).2 ++ [c] := by
        rw [ht, List.drop_append, hl, show (psN s i).2 - i = 0 by omega]; rfl
      simp only [e, scanS, if_neg hc]
abbrev outX (s : List UInt8) : List Fac := (scanS [] s).map facX
theorem ps_end (s : List UInt8) : (psN s (s.length + 1)).1 = outX s := by
  obtain ⟨h1, h2⟩ := ps_scan s s.length (Nat.le_refl _)
  rw [List.drop_length] at h2
  simp only [psN, true_or, if_true]
  unfold outX
  rw [← h2]; rfl
theorem ps_mono (s : List UInt8) (i : Nat) : ∀ k, (psN s i).1.length ≤ (psN s (i + k)).1.length
  | 0 => Nat.le_refl _
  | k + 1 => by
    refine Nat.le_trans (ps_mono s i k) ?_
    rw [← Nat.add_assoc]
    simp only [psN]
    split
    · rw [List.length_append]; omega
    · exact Nat.le_refl _
theorem scan_word : ∀ {x : List UInt8} {cur t : List UInt8}, (∀ c ∈ x, c ≠ 42) → scanS cur (x ++ t) = scanS (cur ++ x) t
  | [], cur, t, _ => by simp
  | c :: x, cur, t, h => by
    show scanS cur (c :: (x ++ t)) = _
    rw [scanS, if_neg (h c (by simp)), scan_word fun d hd => h d (by simp [hd])]
    simp
theorem scan_join : ∀ {r : List (List UInt8)} {x : List UInt8}, (∀ t ∈ x :: r, ∀ c ∈ t, c ≠ 42) → scanS [] (x ++ Lib.joinTail [42] r) = x :: r
  | [], x, h => by
    rw [scan_word (h x (by simp))]; rfl
  | y :: r, x, h => by
    have e : Lib.joinTail [42] (y :: r) = 42 :: (y ++ Lib.joinTail [42] r) := by simp [Lib.joinTail]
    rw [scan_word (h x (by simp)), e]
    simp only [scanS, if_true, List.nil_append]
    rw [scan_join fun t ht => h t (List.mem_cons_of_mem _ ht)]
theorem at_word {x t : List UInt8} (h : ∀ c ∈ x, c ≠ 94) : atP (x ++ 94 :: t) = x.length := by
  unfold atP
  rw [List.takeWhile_append_of_pos (by simpa using h)]
  simp
theorem at_none {x : List UInt8} (h : ∀ c ∈ x, c ≠ 94) : atP x = x.length := by
  unfold atP
  have := List.takeWhile_append_of_pos (p := (· ≠ 94)) (l₁ := x) (l₂ := []) (by simpa using h)
  simp at this
  simp [this]
def signD (p : Int × Bool) : Int := if p.2 then -p.1 else p.1
theorem exps_read : ([-8, -7, -6, -5, -4, -3, -2, -1, 0, 1, 2, 3, 4, 5, 6, 7, 8].all fun e : Int => signD (foldD (Lib.itoa e) 3) == e) = true := by kernel_rfl
theorem facX_part {f : Fac} (hw : wordB f.s = true) (he : farB f.e = false) : facX (partF f) = f := by
  obtain ⟨hne, hm⟩ := word_mem hw
  have h94 : ∀ c ∈ f.s, c ≠ 94 := fun c hc => (hm c hc).2
  unfold partF
  split
  · rename_i h1
    unfold facX
    rw [if_pos (at_none h94), ← h1]
  · have e1 : f.s ++ ([94] ++ Lib.itoa f.e) = f.s ++ 94 :: Lib.itoa f.e := rfl
    rw [e1]
    unfold facX
    rw [at_word h94, if_neg (by simp)]
    have ed : (f.s ++ 94 :: Lib.itoa f.e).drop (f.s.length + 1) = Lib.itoa f.e := by
      rw [List.drop_append, List.drop_eq_nil_of_le (by omega)]
      simp
    rw [ed, List.take_left]
    have hn := near he
    have := List.all_eq_true.1 exps_read f.e (by simp only [List.mem_cons, List.not_mem_nil, or_false]; omega)
    have : signD (foldD (Lib.itoa f.e) 3) = f.e := by simpa using this
    show Fac.mk f.s (signD (foldD (Lib.itoa f.e) 3)) = f
    rw [this]
theorem outX_fmt {l : List Fac} (h : checkF l = 0) (hne : l ≠ []) : outX (fmtF l) = l := by
  have hm := check_mem h
  cases l with
  | nil => exact absurd rfl hne
  | cons f r =>
    have e : fmtF (f :: r) = partF f ++ Lib.joinTail [42] (r.map partF) := by unfold fmtF; rw [List.map_cons, Lib.join_cons]
    unfold outX
    rw [e, scan_join fun t ht => ?_]
    · rw [← List.map_cons (f := partF), List.map_map]
      conv => rhs; rw [← List.map_id (f :: r)]
      exact List.map_congr_left fun g hg => facX_part (hm g hg).1 (hm g hg).2.2
    · rw [← List.map_cons (f := partF)] at ht
      obtain ⟨g, hg, rfl⟩ := List.mem_map.1 ht
      exact (part_text (hm g hg).1 (hm g hg).2.2).2.2
/-- what is read again leads to the same -/
theorem ref_bad {s : List UInt8} {i : Nat} (hs : s ≠ []) (hi : i ≤ s.length + 1) (hx : i = s.length + 1 ∨ 4 < (psN s i).1.length) (h : checkF (psN s i).1 ≠ 0 ∨ fmtF (psN s i).1 ≠ s) : parseP s = ([], 3) := by
  rcases parse_cases s with ⟨_, h2, h3⟩ | h1
  · exfalso
    generalize (parseP s).1 = l at h2 h3
    have hne : l ≠ [] := by rintro rfl; exact hs h3.symm
    have ho := outX_fmt h2 hne
    rw [h3] at ho
    have hl := ps_mono s i (s.length + 1 - i)
    rw [show i + (s.length + 1 - i) = s.length + 1 by omega, ps_end, ho] at hl
    have h4 := check_len h2
    have hi2 : i = s.length + 1 := by rcases hx with hx | hx <;> omega
    rw [hi2, ps_end, ho] at h
    rcases h with h | h
    · exact h h2
    · exact h h3
  · exact h1
theorem ref_good {s : List UInt8} {l : List Fac} (h : checkF l = 0) (h2 : fmtF l = s) : parseP s = (l, 0) := by rw [← h2]; exact parse_fmt h
theorem dec_step {n : Int} (h : ¬ (-10 < n ∧ n < 10)) : Lib.itoa n = Lib.itoa (n.tdiv 10) ++ [UInt8.ofNat (48 + (n.tmod 10).natAbs)] := by
  rcases Int.lt_or_le n 0 with hn | hn
  · obtain ⟨k, hk⟩ := Int.eq_ofNat_of_zero_le (show 0 ≤ -n by omega)
    obtain rfl : n = -(k : Int) := by omega
    have hk10 : 10 ≤ k := by omega
    have e1 : (-(k : Int)).tdiv 10 = -((k / 10 : Nat) : Int) := by rw [Int.neg_tdiv, Int.ofNat_tdiv]; rfl
    have e2 : ((-(k : Int)).tmod 10).natAbs = k % 10 := by rw [Int.neg_tmod, Int.natAbs_neg]; rfl
    rw [e1, e2, Lib.itoa_neg _ (by omega), Lib.itoa_neg _ (by omega), Lib.decDigits, dif_neg (by omega)]
    rfl
  · obtain ⟨k, rfl⟩ := Int.eq_ofNat_of_zero_le hn
    have hk10 : 10 ≤ k := by omega
    have e1 : (k : Int).tdiv 10 = ((k / 10 : Nat) : Int) := rfl
    have e2 : ((k : Int).tmod 10).natAbs = k % 10 := rfl
    rw [e1, e2, Lib.itoa_nonneg, Lib.itoa_nonneg, Lib.decDigits, dif_neg (by omega)]
theorem dec_one {n : Int} (h : -10 < n ∧ n < 10) : Lib.itoa n = if n < 0 then [45, UInt8.ofNat (48 + n.natAbs)] else [UInt8.ofNat (48 + n.natAbs)] := by
  unfold Lib.itoa
  split
  · rw [Lib.decDigits, dif_pos (by omega)]
  · rw [Lib.decDigits, dif_pos (by omega)]
    congr 3; omega
end Go.Abs

namespace Go.Abs
open Go.Proofs Go.RowKit
theorem mapM_bytesL : ∀ l : List UInt8, (bytesL l).mapM byteOf = some l
  | [] => rfl
  | c :: l => by
    have ih := mapM_bytesL l
    simp only [List.map_cons, List.mapM_cons, byteOf, ih]
    simp
theorem bytes_len (l : List UInt8) : (bytesL l).length = l.length := List.length_map ..
theorem u8_in {n : Int} (h0 : 0 ≤ n) (h1 : n < 256) : IntKind.u8.wrap n = n := by
  simp [IntKind.wrap, IntKind.bits, IntKind.signed]
  omega
theorem digB {n : Int} (h0 : 0 ≤ n) (h1 : n < 10) : UInt8.ofNat (IntKind.u8.wrap (IntKind.i64.wrap (48 + n))).toNat = UInt8.ofNat (48 + n.natAbs) := by
  rw [wrap64_in (by omega) (by omega), u8_in (by omega) (by omega)]
  congr 1; omega
theorem tmod_in {n : Int} : -10 < n.tmod 10 ∧ n.tmod 10 < 10 := by
  have h1 := Int.tmod_lt_of_pos n (b := 10) (by omega)
  have h2 := Int.tmod_lt_of_pos (-n) (b := 10) (by omega)
  rw [Int.neg_tmod] at h2
  omega
theorem tdiv_in {n K : Int} (h : -(10 * K) < n ∧ n < 10 * K) : -K < n.tdiv 10 ∧ n.tdiv 10 < K := by
  rcases Int.lt_or_le n 0 with hn | hn
  · have e : n.tdiv 10 = -((-n) / 10) := by
      rw [← Int.tdiv_eq_ediv_of_nonneg (by omega), Int.neg_tdiv, Int.neg_neg]
    rw [e]; omega
  · rw [Int.tdiv_eq_ediv_of_nonneg hn]; omega
theorem p46 (m : Int) (K : Int) (n : Int) (hn : iOk n) (hK : (-10 < n ∧ n < 10) ∨ -(10 * K) < n ∧ n < 10 * K) : PureOk PU (GU m) XT (tbl [(46, s46 K)]) (itbl []) nAn [] 46 [.int .i64 n] (.str (Lib.itoa n), []) := by
  constructor
  rw [w46]
  have e1 : ∀ {p : Prop} [Decidable p], decide p = true → p := fun h => of_decide_eq_true h
  have e2 : ∀ {p : Prop} [Decidable p], decide p = false → ¬ p := fun h => of_decide_eq_false h
  have hm := tmod_in (n := n)
  have hdm := (Int.mul_tdiv_add_tmod n 10).symm
  have hio : iOk (n.tdiv 10) := by unfold iOk at *; omega
  have hq : IntKind.i64.wrap (n.tdiv 10) = n.tdiv 10 := by
    have h := hio
    unfold iOk at h
    exact wrap64_in (by omega) (by omega)
  have hlen : (Lib.itoa (n.tdiv 10)).length ≤ 21 := itoa_len hio
  have big : ¬ (-10 < n ∧ n < 10) → (decide (n.tmod 10 < 0) = true → (10 : Int) ≠ 0 ∧ ∃ s : List UInt8, CallIs (tbl [(46, s46 K)] 46 [.int .i64 (IntKind.i64.wrap (n.tdiv 10))]) (.str s) [] ∧ (1 = 1 ∨ [AV.int .u8 (IntKind.u8.wrap (IntKind.i64.wrap (48 + IntKind.i64.wrap (0 - n.tmod 10))))] = []) ∧ ∃ (l : List UInt8), some [UInt8.ofNat (IntKind.u8.wrap (IntKind.i64.wrap (48 + IntKind.i64.wrap (0 - n.tmod 10)))).toNat] = some l ∧ s.length + l.length ≤ 9223372036854775807 ∧ RetIs (.str (s ++ l)) [] (.str (Lib.itoa n), [])) ∧
      (decide (n.tmod 10 < 0) = false → (10 : Int) ≠ 0 ∧ ∃ s : List UInt8, CallIs (tbl [(46, s46 K)] 46 [.int .i64 (IntKind.i64.wrap (n.tdiv 10))]) (.str s) [] ∧ (1 = 1 ∨ [AV.int .u8 (IntKind.u8.wrap (IntKind.i64.wrap (48 + n.tmod 10)))] = []) ∧ ∃ (l : List UInt8), some [UInt8.ofNat (IntKind.u8.wrap (IntKind.i64.wrap (48 + n.tmod 10))).toNat] = some l ∧ s.length + l.length ≤ 9223372036854775807 ∧ RetIs (.str (s ++ l)) [] (.str (Lib.itoa n), [])) := fun hb => by
    have hd := tdiv_in (hK.resolve_left hb)
    have call : CallIs (tbl [(46, s46 K)] 46 [.int .i64 (IntKind.i64.wrap (n.tdiv 10))]) (.str (Lib.itoa (n.tdiv 10))) [] := callIs_iff.2 (by rw [tb_hit, hq]; simp only [s46]; rw [if_pos ⟨hd.1, hd.2, hio⟩])
    refine ⟨fun h => ⟨by decide, _, call, .inl rfl, _, rfl, by simp only [List.length_cons, List.length_nil]; omega, retIs_iff.2 ?_⟩, fun h => ⟨by decide, _, call, .inl rfl, _, rfl, by simp only [List.length_cons, List.length_nil]; omega, retIs_iff.2 ?_⟩⟩
    · have h := e1 h
      rw [dec_step hb, wrap64_in (n := 0 - n.tmod 10) (by omega) (by omega), digB (by omega) (by omega), show (0 - n.tmod 10).natAbs = (n.tmod 10).natAbs by omega]
    · have h := e2 h
      rw [dec_step hb, digB (by omega) (by omega)]
  refine ⟨fun h => ⟨fun h2 => ⟨fun h3 => ⟨.inl (by simp), _, rfl, by simp, retIs_iff.2 ?_⟩, fun h3 => ⟨.inl (by simp), _, rfl, retIs_iff.2 ?_⟩⟩, fun h2 => ⟨by decide, big ?_⟩⟩, fun h => ⟨by decide, big ?_⟩⟩
  · have h := e1 h; have h2 := e1 h2; have h3 := e1 h3
    rw [dec_one ⟨by omega, h2⟩, if_pos h3, show (48 : Int) - n = 48 + (-n) by omega, digB (by omega) (by omega), Int.natAbs_neg]
    rfl
  · have h := e1 h; have h2 := e1 h2; have h3 := e2 h3
    rw [dec_one ⟨by omega, h2⟩, if_neg h3, digB (by omega) (by omega)]
  · have h2 := e2 h2; omega
  · have h := e2 h; omega
theorem o46z (m : Int) : SpecOk PU (GU m) 46 (s46 0) := spec_of (X := XT) (m := []) (s := s46 0) mixedU tbl_nil itbl_nil fun args r h => by
  unfold s46 at h
  split at h
  · split at h
    · omega
    · cases h
  · cases h
theorem o46k (m : Int) : ∀ k : Nat, SpecOk PU (GU m) 46 (s46 (10 ^ k))
  | 0 => spec_of (X := XT) (m := []) mixedU (tbl_cons (o46z m) tbl_nil) itbl_nil fun args r h => by
    unfold s46 at h
    split at h
    · split at h
      · rename_i hc
        injection h with h; subst h
        exact ⟨_, p46 m 0 _ hc.2.2 (.inl (by omega))⟩
      · cases h
    · cases h
  | k + 1 => spec_of (X := XT) (m := []) mixedU (tbl_cons (o46k m k) tbl_nil) itbl_nil fun args r h => by
    unfold s46 at h
    split at h
    · split at h
      · rename_i hc
        injection h with h; subst h
        refine ⟨_, p46 m (10 ^ k) _ hc.2.2 (.inr ?_)⟩
        rw [Int.pow_succ] at hc
        omega
      · cases h
    · cases h
abbrev KD : Int := 10 ^ 20
theorem t46 {n : Int} (h : iOk n) : tbl [(46, s46 KD)] 46 [.int .i64 n] = some (.str (Lib.itoa n), []) := by
  rw [tb_hit]; simp only [s46]; rw [if_pos ?_]
  have h2 := h
  unfold iOk at h2
  exact ⟨by show -(10:Int)^20 < n; omega, by show n < (10:Int)^20; omega, h⟩
theorem join_snoc (sep : List UInt8) : ∀ (a : List (List UInt8)) (t : List UInt8), Lib.join (a ++ [t]) sep = if a = [] then t else Lib.join a sep ++ sep ++ t
  | [], t => by simp [Lib.join_one]
  | x :: a, t => by
    rw [List.cons_append, Lib.join_cons, Lib.join_cons, if_neg (by simp)]
    simp [Lib.joinTail]
theorem fmt_step {l : List Fac} {i : Nat} {f : Fac} (h : l[i]? = some f) : fmtF (l.take (i + 1)) = sepL l i ++ partF f := by
  have hi := (List.getElem?_eq_some_iff.1 h).1
  unfold sepL fmtF
  rw [List.take_add_one, h, List.map_append]
  show Lib.join ((l.take i).map partF ++ [partF f]) [42] = _
  rw [join_snoc]
  by_cases h0 : i = 0
  · subst h0; rfl
  · rw [if_neg h0, if_neg]
    intro he
    have := congrArg List.length he
    rw [List.length_map, List.length_take, List.length_nil] at this
    omega
theorem fmt_take (l : List Fac) (i : Nat) : (fmtF (l.take i)).length ≤ (fmtF l).length := by
  have key : ∀ k i, i + k = l.length → (fmtF (l.take i)).length ≤ (fmtF l).length := by
    intro k
    induction k with
    | zero => intro i h; rw [List.take_of_length_le (by omega)]; exact Nat.le_refl _
    | succ k ih =>
      intro i h
      have := ih (i + 1) (by omega)
      rw [fmt_step (List.getElem?_eq_getElem (by omega)), List.length_append] at this
      have h2 : (fmtF (l.take i)).length ≤ (sepL l i).length := by
        unfold sepL; split
        · exact Nat.le_refl _
        · rw [List.length_append]; omega
      omega
  by_cases h : i ≤ l.length
  · exact key (l.length - i) i (by omega)
  · rw [List.take_of_length_le (by omega)]; exact Nat.le_refl _
theorem le2 {n : Nat} (h : n ≤ 1000000000) : n * 2 ≤ 70368744177664 := by omega
theorem p24 (m : Int) (l : List Fac) (hl : fmtOk l) : PureOk PU (GU m) XT (tbl [(46, s46 KD)]) (itbl []) (a24 l) [] 24 [.sl 2 (facsL l) .no] (.str (fmtF l), []) := by
  constructor
  rw [w24]
  have hS : ∀ {S : St}, StIs S S := stIs_iff.2 rfl
  have hV : ∀ {l : List AV}, ValsAre l l := valsAre_iff.2 rfl
  have hlen : (facsL l).length = l.length := List.length_map ..
  obtain ⟨hl1, hl2, hl3⟩ := hl
  rw [hlen]
  have hft := fmt_take l
  refine ⟨⟨0, hV, hS, Nat.zero_le _, trivial⟩, fun x hx => ⟨fun hlt => ⟨⟨fun h0 => ⟨.inl (by simp), ?_, (bytes_len _).symm, x, valsAre_iff.2 ?_, stIs_iff.2 ?_, Int.ofNat_lt.1 (of_decide_eq_true hlt), rfl⟩, fun h0 => ⟨x, valsAre_iff.2 ?_, stIs_iff.2 ?_, Int.ofNat_lt.1 (of_decide_eq_true hlt), rfl⟩⟩, fun z hz e => ?_⟩, fun hlt => ?_⟩⟩
  · exact le2 (by rw [bytes_len]; have := hft x; omega)
  · have h0 := of_decide_eq_true h0
    unfold sepL; rw [if_neg (by omega)]; simp
  · have h0 := of_decide_eq_true h0
    unfold sepL; rw [if_neg (by omega), List.length_append, bytes_len]; rfl
  · have h0 := of_decide_eq_false h0
    unfold sepL; rw [if_pos (by omega)]
  · have h0 := of_decide_eq_false h0
    unfold sepL; rw [if_pos (by omega)]
  · obtain rfl : x = z := by injection e with e; injection e with _ e; omega
    have hf := List.getElem?_eq_getElem hz
    have hm : l[x] ∈ l := List.getElem_mem hz
    generalize l[x] = f at hf hm
    have hst := fmt_step hf
    have hb := hft (x + 1)
    rw [hst, List.length_append] at hb
    have hi := hl2 f hm
    have next : ∀ {t : List AV} {n : Nat}, t = bytesL (sepL l x ++ partF f) → n = (sepL l x ++ partF f).length → ∃ y : Nat, ValsAre [AV.sl 2 (facsL l) Own.no, AV.sl 1 t (Own.tok 0), AV.int .i64 (IntKind.i64.wrap ((x : Int) + 1))] [AV.sl 2 (facsL l) Own.no, AV.sl 1 (bytesL (fmtF (l.take y))) (Own.tok 0), AV.int .i64 (y : Int)] ∧ StIs { boxes := [], live := [(n, 5)] } { boxes := [], live := [((fmtF (l.take y)).length, 5)] } ∧ y ≤ l.length ∧ l.length - y < l.length - x := fun h1 h2 => by
      subst h1; subst h2
      exact ⟨x + 1, valsAre_iff.2 (by rw [hst, wrap64_in (by omega) (by omega)]; rfl), stIs_iff.2 (by rw [hst]), hz, by omega⟩
    have hpl : (partF f).length = if f.e = 1 then f.s.length else f.s.length + 1 + (Lib.itoa f.e).length := by
      unfold partF; split
      · rfl
      · simp only [List.length_append, List.length_cons, List.length_nil]; omega
    have hil := itoa_len hi
    have hsl : f.s.length ≤ (partF f).length := by rw [hpl]; split <;> omega
    refine ⟨⟨by omega, by omega⟩, f.s, take_name (by simpa using hf), .inl (by simp), le2 (by rw [bytes_len, List.length_map]; omega), (bytes_len _).symm, ⟨by omega, by omega⟩, f.e, take_exp (by simpa using hf), fun hne => ⟨.inl (by simp), le2 (by simp only [List.length_append, List.length_map]; omega), by rw [List.length_append], ⟨by omega, by omega⟩, f.e, take_exp (by simpa using hf), _, callIs_iff.2 (t46 hi), .inl (by simp), ?_, ?_, next ?_ ?_⟩, fun heq => next ?_ ?_⟩
    · have hne : f.e ≠ 1 := by simpa using hne
      rw [if_neg hne] at hpl
      exact le2 (by simp only [List.length_append, List.length_map, List.length_cons, List.length_nil]; omega)
    · simp only [List.length_append, List.length_map, List.length_cons, List.length_nil]
    · have hne : f.e ≠ 1 := by simpa using hne
      unfold partF; rw [if_neg hne]; simp
    · have hne : f.e ≠ 1 := by simpa using hne
      rw [if_neg hne] at hpl
      simp only [List.length_append, List.length_map, List.length_cons, List.length_nil]; omega
    · have heq : f.e = 1 := by simpa using heq
      unfold partF; rw [if_pos heq]; simp
    · have heq : f.e = 1 := by simpa using heq
      rw [if_pos heq] at hpl
      simp only [List.length_append, List.length_map]; omega
  · have hlt := of_decide_eq_false hlt
    obtain rfl : x = l.length := by omega
    rw [List.take_length]
    exact ⟨.inl (by simp), _, mapM_bytesL _, retIs_iff.2 rfl⟩
end Go.Abs

namespace Go.Abs
open Go.Proofs Go.RowKit
theorem at_cons (c : UInt8) (s : List UInt8) : atP (c :: s) = if c = 94 then 0 else atP s + 1 := by
  unfold atP
  rw [List.takeWhile_cons]
  by_cases h : c = 94
  · simp [h]
  · simp [h]
theorem at_le : ∀ s : List UInt8, atP s ≤ s.length
  | [] => Nat.le_refl _
  | c :: s => by
    have := at_le s
    rw [at_cons, List.length_cons]; split <;> omega
theorem at_before : ∀ {s : List UInt8} {i : Nat} {c : UInt8}, s[i]? = some c → i < atP s → c ≠ 94
  | [], i, c, h, _ => by simp at h
  | d :: s, i, c, h, hi => by
    rw [at_cons] at hi
    split at hi
    · omega
    · rename_i hd
      cases i with
      | zero => simp at h; subst h; exact hd
      | succ i => exact at_before (s := s) (i := i) (by simpa using h) (by omega)
theorem at_hit : ∀ {s : List UInt8} {c : UInt8}, s[atP s]? = some c → c = 94
  | [], c, h => by simp at h
  | d :: s, c, h => by
    rw [at_cons] at h
    split at h
    · rename_i hd
      simp at h; rw [← h]; exact hd
    · exact at_hit (s := s) (by simpa using h)
theorem fold_succ {r : List UInt8} {k : Nat} {c : UInt8} (h : r[k]? = some c) : foldD r (k + 1) = stepD (foldD r k) c := by
  unfold foldD
  rw [List.take_add_one, h, List.foldl_append]; rfl
theorem fold_end {r : List UInt8} {k n : Nat} (h : r.length ≤ k) (hk : k ≤ n) : foldD r k = foldD r n := by
  unfold foldD
  rw [List.take_of_length_le h, List.take_of_length_le (by omega)]
theorem step_b {p : Int × Bool} {c : UInt8} {b : Int} (_hb : 0 ≤ b) (h : -b ≤ p.1 ∧ p.1 ≤ b) : -(10 * b + 303) ≤ (stepD p c).1 ∧ (stepD p c).1 ≤ 10 * b + 303 := by
  have := c.toNat_lt
  unfold stepD
  split
  · simp only; omega
  · simp only; omega
theorem fold_b (r : List UInt8) (k : Nat) (hk : k ≤ 3) : -40000 ≤ (foldD r k).1 ∧ (foldD r k).1 ≤ 40000 := by
  have step : ∀ (k : Nat) (b : Int), 0 ≤ b → (-b ≤ (foldD r k).1 ∧ (foldD r k).1 ≤ b) → -(10 * b + 303) ≤ (foldD r (k + 1)).1 ∧ (foldD r (k + 1)).1 ≤ 10 * b + 303 := fun k b hb h => by
    cases hc : r[k]? with
    | some c => rw [fold_succ hc]; exact step_b hb h
    | none =>
      rw [← fold_end (k := k) (n := k + 1) (by simpa using hc) (by omega)]
      omega
  have h0 : -0 ≤ (foldD r 0).1 ∧ (foldD r 0).1 ≤ 0 := by simp [foldD]
  have h1 : -(10 * 0 + 303) ≤ (foldD r 1).1 ∧ (foldD r 1).1 ≤ 10 * 0 + 303 := step 0 0 (by omega) h0
  have h2 : -(10 * 303 + 303) ≤ (foldD r 2).1 ∧ (foldD r 2).1 ≤ 10 * 303 + 303 := step 1 303 (by omega) (by omega)
  have h3 : -(10 * 3333 + 303) ≤ (foldD r 3).1 ∧ (foldD r 3).1 ≤ 10 * 3333 + 303 := step 2 3333 (by omega) (by omega)
  rcases (show k = 0 ∨ k = 1 ∨ k = 2 ∨ k = 3 by omega) with rfl | rfl | rfl | rfl <;> omega
theorem p43 (m : Int) (s : List UInt8) (hs : strOk s) : PureOk PU (GU m) XT (tbl []) (itbl []) (a43 s) [] 43 [.str s] (facA (facX s), []) := by
  constructor
  rw [w43]
  have hS : ∀ {S : St}, StIs S S := stIs_iff.2 rfl
  have hV : ∀ {l : List AV}, ValsAre l l := valsAre_iff.2 rfl
  have e1 : ∀ {p : Prop} [Decidable p], decide p = true → p := fun h => of_decide_eq_true h
  have e2 : ∀ {p : Prop} [Decidable p], decide p = false → ¬ p := fun h => of_decide_eq_false h
  unfold strOk at hs
  have hal := at_le s
  refine ⟨⟨⟨0, hV, hS, Nat.zero_le _, trivial⟩, fun x hx => ⟨fun hlt => ?_, fun hlt => ⟨(), valsAre_iff.2 ?_, hS, trivial, trivial⟩⟩⟩, fun _ _ _ => ⟨fun h => retIs_iff.2 ?_, fun h => ⟨⟨⟨0, valsAre_iff.2 ?_, hS, ⟨?_, by omega⟩, trivial⟩, fun x hx => ⟨fun hlt => ⟨fun h4 => ?_, fun h4 => ⟨(), valsAre_iff.2 ?_, hS, ?_, trivial⟩⟩, fun hlt => ⟨(), valsAre_iff.2 ?_, hS, ?_, trivial⟩⟩⟩, fun _ hlt _ => ⟨fun hb => ⟨by omega, ⟨Nat.zero_le _, by omega⟩, retIs_iff.2 ?_⟩, fun hb => ⟨by omega, ⟨Nat.zero_le _, by omega⟩, retIs_iff.2 ?_⟩⟩⟩⟩⟩
  · have hlt := Int.ofNat_lt.1 (e1 hlt)
    have hd := List.getElem?_eq_getElem hlt
    generalize s[x] = c at hd
    refine ⟨by omega, c, by simpa using hd, fun hc => ⟨x + 1, valsAre_iff.2 (by rw [wrap64_in (by omega) (by omega)]; rfl), hS, ?_, by omega⟩, fun hc => ⟨(), valsAre_iff.2 ?_, hS, trivial, trivial⟩⟩
    · apply Classical.byContradiction
      intro hn
      obtain rfl : x = atP s := by omega
      have := at_hit hd; subst this
      simp at hc
    · have hc : c = 94 := by
        have : (c.toNat : Int) = 94 := by simpa using hc
        rw [← UInt8.toNat_inj]
        exact Int.ofNat_inj.1 this
      have : x = atP s := by
        apply Classical.byContradiction
        intro hn
        exact at_before hd (by omega) hc
      rw [this]
  · have hlt := e2 hlt
    rw [show x = atP s by omega]
  · have h : atP s = s.length := by
      have : (atP s : Int) = s.length := by simpa using h
      omega
    unfold facX; rw [if_pos h]
  · rw [wrap64_in (by omega) (by omega)]; rfl
  · have h : atP s ≠ s.length := by
      have : (atP s : Int) ≠ s.length := by simpa using h
      omega
    omega
  · obtain ⟨hx1, hx2⟩ := hx
    have hlt := Int.ofNat_lt.1 (e1 hlt)
    have h4 := e1 h4
    rw [wrap64_in (by omega) (by omega)] at h4
    have hd := List.getElem?_eq_getElem hlt
    generalize s[atP s + 1 + x] = c at hd
    have hr : (s.drop (atP s + 1))[x]? = some c := by rw [List.getElem?_drop]; exact hd
    have hst := fold_succ hr
    have hb := fold_b (s.drop (atP s + 1)) x (by omega)
    generalize hF : foldD (s.drop (atP s + 1)) x = F at *
    have hc2 := c.toNat_lt
    refine ⟨by omega, c, hd, fun hc => ⟨x + 1, valsAre_iff.2 ?_, hS, ⟨by omega, by omega⟩, by omega⟩, fun hc => ⟨by omega, c, hd, x + 1, valsAre_iff.2 ?_, hS, ⟨by omega, by omega⟩, by omega⟩⟩
    · have hc : c = 45 := by
        have : (c.toNat : Int) = 45 := by simpa using hc
        rw [← UInt8.toNat_inj]
        exact Int.ofNat_inj.1 this
      rw [hst, wrap64_in (by omega) (by omega)]
      simp only [stepD, hc, if_true]
      rfl
    · have hc : c ≠ 45 := by
        rintro rfl; simp at hc
      rw [hst, wrap64_in (n := 10 * F.1) (by omega) (by omega), wrap64_in (n := (c.toNat : Int)) (by omega) (by omega), wrap64_in (n := 10 * F.1 + (c.toNat : Int)) (by omega) (by omega), wrap64_in (n := 10 * F.1 + (c.toNat : Int) - 48) (by omega) (by omega), wrap64_in (by omega) (by omega)]
      simp only [stepD, if_neg hc]
      rfl
  · have h4 := e2 h4
    rw [wrap64_in (by omega) (by omega)] at h4
    rw [show x = 3 by omega]
  · have hlt := Int.ofNat_lt.1 (e1 hlt)
    omega
  · have hlt := e2 hlt
    rw [fold_end (r := s.drop (atP s + 1)) (k := x) (n := 3) (by rw [List.length_drop]; omega) (by omega)]
  · obtain ⟨hx1, hx2⟩ := hx
    omega
  · have hb3 := fold_b (s.drop (atP s + 1)) 3 (by omega)
    rw [wrap64_in (by omega) (by omega), Int.zero_sub]
    unfold facX; rw [if_neg (by omega), if_pos hb]
    simp
  · unfold facX; rw [if_neg (by omega), if_neg (by rw [hb]; simp)]
    simp
theorem o43 (m : Int) : SpecOk PU (GU m) 43 s43 := spec_of (X := XT) (m := []) mixedU tbl_nil itbl_nil fun args r h => by
  unfold s43 at h
  split at h
  · split at h
    · rename_i hc
      injection h with h; subst h
      exact ⟨_, p43 m _ hc⟩
    · cases h
  · cases h
theorem o24 (m : Int) : SpecOk PU (GU m) 24 s24 := sFp_of (X := XT) (tbl_cons (o46k m 20) tbl_nil) itbl_nil fun l v h => by
  split at h
  · rename_i hl; injection h with h; subst h; exact ⟨_, p24 m l hl⟩
  · cases h
theorem print_fmt {l : List Fac} (h : printOk l) : fmtOk l := ⟨by have := h.1; omega, fun f hf => (h.2 f hf).2, by have := fmt_len h; omega⟩
abbrev T22 : List (FuncId × Spec) := [(43, s43), (14, s14), (24, s24)]
theorem p22 (m : Int) (s : List UInt8) (hs : strOk s) : LaxOk PU (GU m) XT (tbl T22) (itbl []) (a22 s) [] 22 [.str s] (facR (parseP s)) := by
  constructor
  rw [w22]
  have hS : ∀ {S : St}, StIs S S := stIs_iff.2 rfl
  have hV : ∀ {l : List AV}, ValsAre l l := valsAre_iff.2 rfl
  have e1 : ∀ {p : Prop} [Decidable p], decide p = true → p := fun h => of_decide_eq_true h
  have e2 : ∀ {p : Prop} [Decidable p], decide p = false → ¬ p := fun h => of_decide_eq_false h
  have hlen : ∀ l, (facsL l).length = l.length := fun _ => List.length_map ..
  have t14 : ∀ x : List Fac, tbl T22 14 [.sl 2 (facsL x) .no] = some (.int .i64 (checkF x), []) := fun x => by unfold T22; rw [tb_miss (by decide), tb_hit, s14, s13, tF]
  have t24 : ∀ x : List Fac, fmtOk x → tbl T22 24 [.sl 2 (facsL x) .no] = some (.str (fmtF x), []) := fun x hx => by
    unfold T22; rw [tb_miss (by decide), tb_miss (by decide), tb_hit, s24, tF, if_pos hx]
  have t43 : ∀ x : List UInt8, strOk x → tbl T22 43 [.str x] = some (facA (facX x), []) := fun x hx => by
    unfold T22; rw [tb_hit]; simp only [s43]; rw [if_pos hx]
  have hso := hs
  unfold strOk at hso
  have hnil : ∀ {b : Bool}, ((s.length : Int) == 0) = b → (b = true ↔ s = []) := fun h => by
    rw [← h]; simp
  refine ⟨fun h => ?_, fun h => ⟨⟨⟨0, hV, hS, ⟨Nat.zero_le _, Nat.zero_le _⟩, trivial⟩, fun x hx => ⟨fun hle => ⟨fun hl4 => ?_, fun hl4 => ⟨x, hV, hS, ⟨hx.1, hx.2, .inr ?_⟩, trivial⟩⟩, fun hle => ⟨x, hV, hS, ⟨hx.1, hx.2, .inl ?_⟩, trivial⟩⟩⟩, fun x hx _ => ?_⟩⟩
  · have : s = [] := (hnil h).1 rfl
    subst this
    exact retFac (l := []) (e := 0) rfl (.inr rfl)
  · obtain ⟨hx1, hx2⟩ := hx
    have hle := Int.ofNat_le.1 (e1 hle)
    have hl4 := e1 hl4
    rw [hlen] at hl4
    obtain ⟨hps, _⟩ := ps_scan s x hle
    have hsub : strOk ((s.take x).drop (psN s x).2) := by unfold strOk; rw [List.length_drop, List.length_take]; omega
    have take : (x = s.length ∨ s[x]? = some 42) → 0 ≤ ((psN s x).2 : Int) ∧ 0 ≤ (x : Int) ∧ (((psN s x).2 : Int).toNat ≤ (x : Int).toNat ∧ (x : Int).toNat ≤ s.length) ∧
        ∃ (s_1 : List UInt8) (n : Int), CallIs (tbl T22 43 [.str (List.drop ((psN s x).2 : Int).toNat (List.take (x : Int).toNat s))]) (.agg [.str s_1, .int .i64 n]) [] ∧ (2 = 2 ∨ facsL (psN s x).1 = []) ∧
          ((facsL (psN s x).1).length + 1) * 25 ≤ 70368744177664 ∧ (psN s x).1.length = (facsL (psN s x).1).length ∧
          ∃ y : Nat, ValsAre [.str s, .sl 2 (facsL (psN s x).1 ++ [.agg [.str s_1, .int .i64 n]]) (Own.tok 0), .int .i64 (IntKind.i64.wrap ((x : Int) + 1)), .int .i64 (IntKind.i64.wrap ((x : Int) + 1))] [.str s, .sl 2 (facsL (psN s y).1) (Own.tok 0), .int .i64 (psN s y).2, .int .i64 y] ∧
            StIs { boxes := [], live := [((facsL (psN s x).1).length + 1, 37)] } { boxes := [], live := [((psN s y).1.length, 37)] } ∧ (y ≤ s.length + 1 ∧ (psN s y).1.length ≤ 5) ∧ s.length + 1 - y < s.length + 1 - x := fun hh => by
      have hp : psN s (x + 1) = ((psN s x).1 ++ [facX ((s.take x).drop (psN s x).2)], x + 1) := by
        show (if _ then _ else _) = _
        rw [if_pos hh]
      refine ⟨by omega, by omega, ⟨by omega, by omega⟩, (facX ((s.take x).drop (psN s x).2)).s, (facX ((s.take x).drop (psN s x).2)).e, callIs_iff.2 (t43 _ hsub), .inl rfl, by rw [hlen]; omega, (hlen _).symm, x + 1, valsAre_iff.2 ?_, stIs_iff.2 ?_, ⟨by omega, ?_⟩, by omega⟩
      · rw [hp, wrap64_in (by omega) (by omega)]
        simp [facA]
      · rw [hp, hlen, List.length_append]; rfl
      · rw [hp, List.length_append]; simp only [List.length_cons, List.length_nil]; omega
    refine ⟨fun hx => take (.inl ?_), fun hx => ?_⟩
    · have : (x : Int) = s.length := by simpa using hx
      omega
    · have hx : x ≠ s.length := by
        have : (x : Int) ≠ s.length := by simpa using hx
        omega
      have hd := List.getElem?_eq_getElem (show x < s.length by omega)
      generalize s[x] = c at hd
      refine ⟨by omega, c, by simpa using hd, fun hc => take (.inr ?_), fun hc => ?_⟩
      · have hc : c = 42 := by
          have : (c.toNat : Int) = 42 := by simpa using hc
          rw [← UInt8.toNat_inj]
          exact Int.ofNat_inj.1 this
        rw [hd, hc]
      · have hc : c ≠ 42 := by rintro rfl; simp at hc
        have hp : psN s (x + 1) = psN s x := by
          show (if _ then _ else _) = _
          rw [if_neg]
          rintro (h | h)
          · exact hx h
          · rw [hd] at h; injection h with h; exact hc h
        exact ⟨x + 1, valsAre_iff.2 (by rw [hp, wrap64_in (by omega) (by omega)]; rfl), stIs_iff.2 (by rw [hp]), ⟨by omega, by rw [hp]; exact hx2⟩, by omega⟩
  · have := e2 hl4
    rw [hlen] at this; omega
  · have := e2 hle
    have := hx.1
    omega
  · obtain ⟨hx1, hx2, hx3⟩ := hx
    have hne : s ≠ [] := fun e => by rw [e] at h; simp at h
    refine ⟨checkF (psN s x).1, callIs_iff.2 (t14 _), fun hc => retFac (l := []) (e := 3) ?_ (.inr rfl), fun hc => ?_⟩
    · exact (ref_bad hne hx1 hx3 (.inl (by simpa using hc))).symm
    · have hc : checkF (psN s x).1 = 0 := by simpa using hc
      refine ⟨fmtF (psN s x).1, callIs_iff.2 (t24 _ (print_fmt (check_print hc))), fun hf => retFac (l := []) (e := 3) ?_ (.inr rfl), fun hf => retFac ?_ (.inl rfl)⟩
      · exact (ref_bad hne hx1 hx3 (.inr (by simpa using hf))).symm
      · exact (ref_good hc (by simpa using hf)).symm
theorem o22 (m : Int) : SpecOk PU (GU m) 22 s22 := lax_of (X := XT) (m := []) mixedU (tbl_cons (o43 m) (tbl_cons (o14 m) (tbl_cons (o24 m) tbl_nil))) itbl_nil fun args r h => by
  unfold s22 s21 at h
  split at h
  · split at h
    · rename_i hc; injection h with h; subst h; exact ⟨_, p22 m _ hc⟩
    · cases h
  · cases h
/-! units.Format -/
theorem part_fmt {l : List Fac} {i : Nat} {f : Fac} (h : l[i]? = some f) : (partF f).length ≤ (fmtF l).length := by
  have h1 := fmt_step h
  have h2 := fmt_take l (i + 1)
  rw [h1, List.length_append] at h2
  omega
theorem p23g (m : Int) (l : List Fac) (hl : fmtOk l) : PureOk PU (GU m) XQ (tbl [(44, s44), (45, s45)]) (itbl []) (a23 l) [] 23 [.sl 2 (facsL l) .no] (.str (fmtF l), []) := by
  constructor
  rw [w23]
  have hlen : (facsL l).length = l.length := List.length_map ..
  obtain ⟨h4, hl2, hl3⟩ := hl
  have hS : ∀ {S : St}, StIs S S := stIs_iff.2 rfl
  refine ⟨⟨0, valsAre_iff.2 (by rw [hlen]; rfl), hS, Nat.zero_le _, trivial⟩, fun x hx => ⟨fun hlt => ?_, fun hlt => ?_⟩⟩
  · have hlt := of_decide_eq_true hlt
    have hlt' : x < l.length := by omega
    have hf := List.getElem?_eq_getElem hlt'
    have hm : l[x] ∈ l := List.getElem_mem hlt'
    generalize l[x] = f at hf hm
    have hfl := hl2 f hm
    have hpl := part_fmt hf
    have hroom : (List.map AV.str (List.map partF (List.take x l))).length + 1 ≤ 1200000 := by simp; omega
    have next : ∀ {t : List UInt8}, t = partF f → ∃ y : Nat,
        ValsAre [AV.sl 1 (List.map AV.str (List.map partF (List.take x l)) ++ [AV.str t]) (Own.tok 0), AV.sl 2 (facsL l) Own.no, AV.int .i64 (l.length : Int), AV.int .i64 (IntKind.i64.wrap ((x : Int) + 1))]
          [AV.sl 1 (List.map AV.str (List.map partF (List.take y l))) (Own.tok 0), AV.sl 2 (facsL l) Own.no, AV.int .i64 (l.length : Int), AV.int .i64 (y : Int)] ∧
        StIs { boxes := [], live := [((List.map AV.str (List.map partF (List.take x l))).length + 1, 9)] } { boxes := [], live := [((List.map partF (List.take y l)).length, 9)] } ∧ y ≤ l.length ∧ l.length - y < l.length - x := fun {t} ht => by
      subst ht
      have e : l.take (x + 1) = l.take x ++ [f] := by rw [List.take_add_one, hf]; rfl
      refine ⟨x + 1, valsAre_iff.2 ?_, stIs_iff.2 ?_, by omega, by omega⟩
      · rw [e, show IntKind.i64.wrap ((x : Int) + 1) = ((x + 1 : Nat) : Int) by rw [wrap64_in (by omega) (by omega)]; rfl]
        simp
      · rw [e]; simp
    refine ⟨⟨by omega, by rw [hlen]; omega⟩, f.s, f.e, take_fac (by simpa using hf), fun hne => ?_, fun heq => ⟨.inl (by simp), Nat.le_trans (Nat.mul_le_mul_right 17 hroom) (by decide), by simp, next ?_⟩⟩
    · have hne : f.e ≠ 1 := by simpa using hne
      have hi := itoa_len hfl
      have hsl : f.s.length ≤ (partF f).length := by unfold partF; rw [if_neg hne, List.length_append]; omega
      refine ⟨Lib.itoa f.e, callIs_iff.2 (by rw [tb_hit]; simp only [s44]; rw [if_pos hfl]), ?_, ?_, .inl (by simp), Nat.le_trans (Nat.mul_le_mul_right 17 hroom) (by decide), by simp, next ?_⟩
      · exact Nat.le_trans (Nat.add_le_add_left hi 1) (by decide)
      · exact Nat.le_trans (show _ ≤ 200000000 by simp; omega) (by decide)
      · unfold partF; rw [if_neg hne]
    · have heq : f.e = 1 := by simpa using heq
      unfold partF; rw [if_pos heq]
  · have hlt := of_decide_eq_false hlt
    have : x = l.length := by omega
    subst this
    rw [List.take_length]
    refine ⟨fmtF l, callIs_iff.2 ?_, retIs_iff.2 rfl⟩
    rw [tb_miss (by decide), tb_hit]
    simp only [s45, true_or, if_true, unSs, Option.bind_some]
    rw [if_pos ⟨by rw [List.length_map]; omega, by unfold fmtF at hl3; omega⟩]
    rfl
theorem o23g (m : Int) : SpecOk PU (GU m) 23 s23g := sFp_of (X := XQ) (tbl_cons (o44 m) (tbl_cons (o45 m) tbl_nil)) itbl_nil fun l v h => by
  split at h
  · rename_i hl; injection h with h; subst h; exact ⟨_, p23g m l hl⟩
  · cases h
end Go.Abs

namespace Go.Abs
open Go.Proofs Go.RowKit
def s3 : Spec := sF fun l => if lenOk l ∧ (∀ f ∈ l, iOk f.e) then some (.bool true, []) else none
def s4 : Spec := sF2 fun l r => if hugeOk l ∧ hugeOk r then some (.bool true, []) else none
def s5 : Spec := fun args => match args with
  | [.sl sz es _, .str s] => if (sz = 2 ∨ es = []) ∧ strOk s then (unL unF es).bind fun l => if fmtOk l then some (.bool true, []) else none else none
  | _ => none
theorem o10p : tbl [(10, s10)] 10 [] = some (.bool true, []) := rfl
theorem eq_no {a b : Int} {P : Prop} (h : a = b) (h2 : (a == b) = false) : P := by subst h; simp at h2
theorem p3 (m : Int) (l : List Fac) (hl : lenOk l) (he : ∀ f ∈ l, iOk f.e) : PureOk PU (GU m) XE (tbl [(10, s10), (11, s11), (12, s12), (13, s13), (14, s14), (15, s15)]) (itbl []) nAn [] 3 [.sl 2 (facsL l) .no] (.bool true, []) := by
  constructor
  rw [w3]
  have c11 : tbl [(10, s10), (11, s11), (12, s12), (13, s13), (14, s14), (15, s15)] 11 [.sl 2 (facsL l) .no] = some (facR (normP l)) := by
    rw [tb_miss (by decide), tb_hit, s11, tF, if_pos ⟨hl, he⟩]
  have c12 : tbl [(10, s10), (11, s11), (12, s12), (13, s13), (14, s14), (15, s15)] 12 [.sl 2 (facsL l) .no] = some (facR (normP l)) := by
    rw [tb_miss (by decide), tb_miss (by decide), tb_hit, s12, s11, tF, if_pos ⟨hl, he⟩]
  have c13 : tbl [(10, s10), (11, s11), (12, s12), (13, s13), (14, s14), (15, s15)] 13 [.sl 2 (facsL l) .no] = some (.int .i64 (checkF l), []) := by
    rw [tb_miss (by decide), tb_miss (by decide), tb_miss (by decide), tb_hit, s13, tF]
  have c14 : tbl [(10, s10), (11, s11), (12, s12), (13, s13), (14, s14), (15, s15)] 14 [.sl 2 (facsL l) .no] = some (.int .i64 (checkF l), []) := by
    rw [tb_miss (by decide), tb_miss (by decide), tb_miss (by decide), tb_miss (by decide), tb_hit, s14, s13, tF]
  have c15 : ∀ x : List Fac, x.length ≤ 4 → tbl [(10, s10), (11, s11), (12, s12), (13, s13), (14, s14), (15, s15)] 15 [.sl 2 (facsL x) .no, .sl 2 (facsL x) .no] = some (.bool (decide (x = x)), []) := fun x hx => by
    rw [tb_miss (by decide), tb_miss (by decide), tb_miss (by decide), tb_miss (by decide), tb_miss (by decide), tb_hit, s15, s39, tF2, if_pos (huge4 hx)]
  refine ⟨true, callIs_iff.2 rfl, fun _ => ⟨_, _, callIs_iff.2 c11, _, _, callIs_iff.2 c12, _, callIs_iff.2 c13, _, callIs_iff.2 c14, fun _ => ⟨fun _ => ⟨_, callIs_iff.2 (c15 _ (norm_len l)), fun _ => retT, fun h => ?_⟩, eq_no rfl⟩, eq_no rfl⟩, fun h => by cases h⟩
  exact absurd rfl (of_decide_eq_false h)
abbrev T4 : List (FuncId × Spec) := [(10, s10), (16, s16), (17, s17), (18, s18), (19, s19), (15, s15), (20, s39)]
theorem p4 (m : Int) (l r : List Fac) (hl : hugeOk l) : PureOk PU (GU m) XE (tbl T4) (itbl []) nAn [] 4 [.sl 2 (facsL l) .no, .sl 2 (facsL r) .no] (.bool true, []) := by
  constructor
  rw [w4]
  have c16 : tbl T4 16 [.sl 2 (facsL l) .no, .sl 2 (facsL r) .no] = some (facR (prodP l r 1)) := by
    unfold T4; rw [tb_miss (by decide), tb_hit, s16, tF2]
  have c17 : tbl T4 17 [.sl 2 (facsL l) .no, .sl 2 (facsL r) .no] = some (facR (prodP l r 1)) := by
    unfold T4; rw [tb_miss (by decide), tb_miss (by decide), tb_hit, s17, s16, tF2]
  have c18 : tbl T4 18 [.sl 2 (facsL l) .no, .sl 2 (facsL r) .no] = some (facR (prodP l r (-1))) := by
    unfold T4; rw [tb_miss (by decide), tb_miss (by decide), tb_miss (by decide), tb_hit, s18, tF2]
  have c19 : tbl T4 19 [.sl 2 (facsL l) .no, .sl 2 (facsL r) .no] = some (facR (prodP l r (-1))) := by
    unfold T4; rw [tb_miss (by decide), tb_miss (by decide), tb_miss (by decide), tb_miss (by decide), tb_hit, s19, s18, tF2]
  have c15 : ∀ x y : List Fac, hugeOk x → tbl T4 15 [.sl 2 (facsL x) .no, .sl 2 (facsL y) .no] = some (.bool (decide (x = y)), []) := fun x y hx => by
    unfold T4; rw [tb_miss (by decide), tb_miss (by decide), tb_miss (by decide), tb_miss (by decide), tb_miss (by decide), tb_hit, s15, s39, tF2, if_pos hx]
  have c20 : tbl T4 20 [.sl 2 (facsL l) .no, .sl 2 (facsL r) .no] = some (.bool (decide (l = r)), []) := by
    unfold T4; rw [tb_miss (by decide), tb_miss (by decide), tb_miss (by decide), tb_miss (by decide), tb_miss (by decide), tb_miss (by decide), tb_hit, s39, tF2, if_pos hl]
  have no : ∀ {x : List Fac} {P : Prop}, decide (x = x) = false → P := fun h => absurd rfl (of_decide_eq_false h)
  refine ⟨true, callIs_iff.2 rfl, fun _ => ⟨_, _, callIs_iff.2 c16, _, _, callIs_iff.2 c17, _, _, callIs_iff.2 c18, _, _, callIs_iff.2 c19, fun _ => ⟨fun _ => ⟨_, callIs_iff.2 (c15 _ _ (huge4 (prod_len l r 1))), fun _ => ⟨_, callIs_iff.2 (c15 _ _ (huge4 (prod_len l r (-1)))), fun _ => ⟨_, callIs_iff.2 c20, fun hb => ⟨_, callIs_iff.2 (c15 _ _ hl), fun hb2 => ⟨fun _ => retT, fun h => ?_⟩, fun hb2 => ?_⟩, fun hb => ⟨_, callIs_iff.2 (c15 _ _ hl), fun hb2 => ?_, fun hb2 => ⟨fun _ => retT, fun h => ?_⟩⟩⟩, no⟩, no⟩, eq_no rfl⟩, eq_no rfl⟩, fun h => by cases h⟩
  · cases h
  · rw [hb] at hb2; cases hb2
  · rw [hb] at hb2; cases hb2
  · cases h
theorem parse_len (s : List UInt8) : (parseP s).1.length ≤ 4 := by
  rcases parse_cases s with ⟨_, h, _⟩ | h
  · exact check_len h
  · rw [h]; simp
abbrev T5 : List (FuncId × Spec) := [(10, s10), (21, s21), (22, s22), (23, s23g), (24, s24), (15, s15)]
theorem p5 (m : Int) (l : List Fac) (s : List UInt8) (hl : fmtOk l) (hs : strOk s) : PureOk PU (GU m) XT (tbl T5) (itbl []) nAn [] 5 [.sl 2 (facsL l) .no, .str s] (.bool true, []) := by
  constructor
  rw [w5]
  have c21 : ∀ s : List UInt8, strOk s → tbl T5 21 [.str s] = some (facR (parseP s)) := fun s hs => by
    unfold T5; rw [tb_miss (by decide), tb_hit]; simp only [s21]; rw [if_pos hs]
  have c22 : ∀ s : List UInt8, strOk s → tbl T5 22 [.str s] = some (facR (parseP s)) := fun s hs => by
    unfold T5; rw [tb_miss (by decide), tb_miss (by decide), tb_hit]; simp only [s22, s21]; rw [if_pos hs]
  have c23 : tbl T5 23 [.sl 2 (facsL l) .no] = some (.str (fmtF l), []) := by
    unfold T5; rw [tb_miss (by decide), tb_miss (by decide), tb_miss (by decide), tb_hit, s23g, s24, tF, if_pos hl]
  have c24 : tbl T5 24 [.sl 2 (facsL l) .no] = some (.str (fmtF l), []) := by
    unfold T5; rw [tb_miss (by decide), tb_miss (by decide), tb_miss (by decide), tb_miss (by decide), tb_hit, s24, tF, if_pos hl]
  have c15 : ∀ x : List Fac, x.length ≤ 4 → tbl T5 15 [.sl 2 (facsL x) .no, .sl 2 (facsL x) .no] = some (.bool (decide (x = x)), []) := fun x hx => by
    unfold T5; rw [tb_miss (by decide), tb_miss (by decide), tb_miss (by decide), tb_miss (by decide), tb_miss (by decide), tb_hit, s15, s39, tF2, if_pos (huge4 hx)]
  have hf : strOk (fmtF l) := hl.2.2
  have no : ∀ {x : List Fac} {P : Prop}, decide (x = x) = false → P := fun h => absurd rfl (of_decide_eq_false h)
  refine ⟨true, callIs_iff.2 rfl, fun _ => ⟨_, _, callIs_iff.2 (c21 s hs), _, _, callIs_iff.2 (c22 s hs), _, callIs_iff.2 c23, _, _, callIs_iff.2 (c21 _ hf), _, _, callIs_iff.2 (c22 _ hf), fun _ => ⟨_, callIs_iff.2 (c15 _ (parse_len s)), fun _ => ⟨_, callIs_iff.2 c24, fun _ => ⟨fun _ => ⟨_, callIs_iff.2 (c15 _ (parse_len _)), fun _ => retT, no⟩, eq_no rfl⟩, fun h => ?_⟩, no⟩, eq_no rfl⟩, fun h => by cases h⟩
  simp at h
theorem o3 (m : Int) : SpecOk PU (GU m) 3 s3 := sFp_of (X := XE) (tbl_cons (o10 m) (tbl_cons (o11 m) (tbl_cons (o12 m) (tbl_cons (o13 m) (tbl_cons (o14 m) (tbl_cons (o15 m) tbl_nil)))))) itbl_nil fun l v h => by
  split at h
  · rename_i hl; injection h with h; subst h; exact ⟨_, p3 m l hl.1 hl.2⟩
  · cases h
theorem o4 (m : Int) : SpecOk PU (GU m) 4 s4 := sF2p_of (X := XE) (tbl_cons (o10 m) (tbl_cons (o16 m) (tbl_cons (o17 m) (tbl_cons (o18 m) (tbl_cons (o19 m) (tbl_cons (o15 m) (tbl_cons (o20 m) tbl_nil))))))) itbl_nil fun l r v h => by
  split at h
  · rename_i hl; injection h with h; subst h; exact ⟨_, p4 m l r hl.1⟩
  · cases h
theorem o5 (m : Int) : SpecOk PU (GU m) 5 s5 := spec_ofW (X := XT) (m := []) [2] mixedU (tbl_cons (o10 m) (tbl_cons (o21 m) (tbl_cons (o22 m) (tbl_cons (o23g m) (tbl_cons (o24 m) (tbl_cons (o15 m) tbl_nil)))))) itbl_nil fun args r h' => by
  unfold s5 at h'
  split at h'
  · split at h'
    · rename_i sz es o s hz
      cases hu : unL unF es with
      | none => rw [hu] at h'; cases h'
      | some l =>
        rw [hu] at h'
        simp only [Option.bind_some] at h'
        split at h'
        · rename_i hc
          injection h' with h'; subst h'
          simp only [wkL, wkF hz.1 hu]
          exact ⟨_, p5 m l s hc hz.2⟩
        · cases h'
    · cases h'
  · cases h'
theorem s3_true (l : List Fac) (h : lenOk l) (h' : ∀ f ∈ l, iOk f.e) : s3 [.sl 2 (facsL l) .no] = some (.bool true, []) := by
  rw [s3, tF, if_pos ⟨h, h'⟩]
theorem s4_true (l r : List Fac) (h : hugeOk l) (h' : hugeOk r) : s4 [.sl 2 (facsL l) .no, .sl 2 (facsL r) .no] = some (.bool true, []) := by
  rw [s4, tF2, if_pos ⟨h, h'⟩]
theorem s5_true (l : List Fac) (s : List UInt8) (h : fmtOk l) (hs : strOk s) : s5 [.sl 2 (facsL l) .no, .str s] = some (.bool true, []) := by
  simp only [s5, true_or, true_and]; rw [if_pos hs, unFs]; simp only [Option.bind_some]; rw [if_pos h]
end Go.Abs

namespace Go.Abs
open Go.Proofs Go.Proofs.YtpfdmcpnbkohdaaGreatDoor Go.ChangeShapes Go.WideShapes Go.ChangeAt Go.RowKit Go.Deep Go.ChangeMaps

abbrev laid7 : List (String × DataW Unit) := Rows.unitsGroupRow.laid
theorem gSyn : PU.globalNamed "strconv.ErrSyntax" = some 3 := by kernel_rfl
theorem gRange : PU.globalNamed "strconv.ErrRange" = some 4 := by kernel_rfl
theorem gPows : PU.globalNamed "internal/strconv.uint64pow10" = some 5 := by kernel_rfl
theorem nGlob : PU.globals.size = 10 := by kernel_rfl
section
variable {W : World}
theorem pow_cells (h : laidMet PU laid7 W) : ∀ i, i < 20 → W.cell? ⟨5, i, none⟩ = some (.int .u64 ((10 ^ i : Nat) : Int)) := by
  obtain ⟨g, t, cs, fuel, p, h1, h2, h3, h4⟩ := Lib.laidMet.reads h (n := "internal/strconv.uint64pow10") (d := Rows.laid_internal_strconv_uint64pow10) (by simp [laid7, Rows.unitsGroupRow])
  obtain rfl := Option.some.inj (gPows.symm.trans h1)
  have ty : ∃ t0 e, (PU.globals[5]?).map (·.type) = some t0 ∧ PU.underlying t0 = some (.array 20 e) ∧ PU.underlying e = some (.int .u64) ∧ PU.cellsOf e = 1 ∧ PU.cellsOf t0 = 20 := ⟨145, 43, by kernel_rfl, by kernel_rfl, by kernel_rfl, by kernel_rfl, by kernel_rfl⟩
  obtain ⟨t0, e, g1, g2, g3, g4, g5⟩ := ty
  obtain rfl := Option.some.inj (g1.symm.trans h2)
  have hd : (Rows.laid_internal_strconv_uint64pow10 : DataW Unit) = Lib.tabData .u64 Lib.pow10Tab := by kernel_rfl
  rw [hd] at h4
  have hcs := Lib.cells_of_tab g2 g3 g4 g5 h4
  intro i hi
  rw [World.var?_cell h1 h3 i, ← Array.getElem?_toList, hcs]
  simp [Lib.pow10Tab, hi]
theorem range_cell (h : laidMet PU laid7 W) : ∃ t v, W.cell? ⟨4, 0, none⟩ = some (.iface t v) := by
  obtain ⟨g, t, cs, fuel, p, h1, h2, h3, h4⟩ := Lib.laidMet.reads h (n := "strconv.ErrRange") (d := Rows.laid_strconv_ErrRange) (by simp [laid7, Rows.unitsGroupRow])
  obtain rfl := Option.some.inj (gRange.symm.trans h1)
  have ty : ∃ t0 ms, (PU.globals[4]?).map (·.type) = some t0 ∧ PU.underlying t0 = some (.interface ms) := ⟨62, _, by kernel_rfl, Tryz.underlying62⟩
  obtain ⟨t0, ms, g1, g2⟩ := ty
  obtain rfl := Option.some.inj (g1.symm.trans h2)
  obtain ⟨_, u, v, hcs, _⟩ := iface_of_trod g2 h4
  refine ⟨u, v, ?_⟩
  rw [World.var?_cell h1 h3 0, ← Array.getElem?_toList, hcs]
  rfl
theorem syn_cell (h : laidMet PU laid7 W) : ∃ t v, W.cell? ⟨3, 0, none⟩ = some (.iface t v) := by
  obtain ⟨g, t, cs, fuel, p, h1, h2, h3, h4⟩ := Lib.laidMet.reads h (n := "strconv.ErrSyntax") (d := Rows.laid_strconv_ErrSyntax) (by simp [laid7, Rows.unitsGroupRow])
  obtain rfl := Option.some.inj (gSyn.symm.trans h1)
  have ty : ∃ t0 ms, (PU.globals[3]?).map (·.type) = some t0 ∧ PU.underlying t0 = some (.interface ms) := ⟨62, _, by kernel_rfl, Tryz.underlying62⟩
  obtain ⟨t0, ms, g1, g2⟩ := ty
  obtain rfl := Option.some.inj (g1.symm.trans h2)
  obtain ⟨_, u, v, hcs, _⟩ := iface_of_trod g2 h4
  refine ⟨u, v, ?_⟩
  rw [World.var?_cell h1 h3 0, ← Array.getElem?_toList, hcs]
  rfl
theorem glob7A (h : laidMet PU laid7 W) (hsh : W.ShapedOpen PU) {m : Int} (hm : W.cell? ⟨2, 0, none⟩ = some (.int .i64 m)) : GlobOk (GU m) (oldE W) W := by
  refine globA (fun g e hg => ?_) fun g e hg => ?_
  · match g, hg with
    | 0, hg => cases hg
    | 1, hg => cases hg
    | 2, hg =>
      simp only [GU, Option.some.injEq] at hg
      subst hg
      refine ⟨rfl, fun j c hj => ?_⟩
      match j, hj with
      | 0, hj => simp [AV.cells] at hj; subst hj; exact ⟨_, hm, .int _ _, rfl⟩
      | j + 1, hj => simp [AV.cells] at hj
    | 3, hg =>
      simp only [GU, Option.some.injEq] at hg
      subst hg
      refine ⟨rfl, fun j c hj => ?_⟩
      match j, hj with
      | 0, hj =>
        simp [AV.cells] at hj; subst hj
        obtain ⟨t, v, hv⟩ := syn_cell h
        exact ⟨_, hv, .ifc _ _, rfl⟩
      | j + 1, hj => simp [AV.cells] at hj
    | 4, hg =>
      simp only [GU, Option.some.injEq] at hg
      subst hg
      refine ⟨rfl, fun j c hj => ?_⟩
      match j, hj with
      | 0, hj =>
        simp [AV.cells] at hj; subst hj
        obtain ⟨t, v, hv⟩ := range_cell h
        exact ⟨_, hv, .ifc _ _, rfl⟩
      | j + 1, hj => simp [AV.cells] at hj
    | 5, hg =>
      simp only [GU, Option.some.injEq] at hg
      subst hg
      refine ⟨?_, fun j c hj => ?_⟩
      · simp only [keptPowsA, AV.closed1, keptPows, List.all_map, List.all_eq_true]
        intro x _; rfl
      · have hlt : j < 20 := by
          have := (List.getElem?_eq_some_iff.1 hj).1
          simpa [keptPowsA, AV.cells, keptPows] using this
        refine ⟨_, pow_cells h j hlt, ?_, rfl⟩
        have : c = .int .u64 ((10 ^ j : Nat) : Int) := by
          simp only [keptPowsA, AV.cells, keptPows, List.getElem?_map, List.getElem?_range hlt, Option.map_some, Option.some.injEq] at hj
          exact hj.symm
        subst this
        exact .int _ _
    | g + 6, hg => cases hg
  · match g, hg with
    | 0, hg => cases hg
    | 1, hg => cases hg
    | 2, hg =>
      simp only [GU, Option.some.injEq] at hg
      subst hg
      exact glob_size hsh (n := 1) (by rw [nGlob]; omega) (by kernel_rfl)
    | 3, hg =>
      simp only [GU, Option.some.injEq] at hg
      subst hg
      exact glob_size hsh (n := 1) (by rw [nGlob]; omega) (by kernel_rfl)
    | 4, hg =>
      simp only [GU, Option.some.injEq] at hg
      subst hg
      exact glob_size hsh (n := 1) (by rw [nGlob]; omega) (by kernel_rfl)
    | 5, hg =>
      simp only [GU, Option.some.injEq] at hg
      subst hg
      have := glob_size (P := PU) hsh (g := 5) (n := 20) (by rw [nGlob]; omega) (by kernel_rfl)
      have hn : keptPowsA.cells.length = 20 := by simp [keptPowsA, AV.cells, keptPows]
      rw [hn]; exact this
    | g + 6, hg => cases hg
end
theorem int_cells : PU.cellsOf 3 = 1 := by kernel_rfl
theorem str_cells : PU.cellsOf 9 = 1 := by kernel_rfl
theorem fac_struct : ∃ f0 f1 : Field, PU.underlying 37 = some (.struct #[f0, f1]) ∧ f0.type = 9 ∧ f0.offset = 0 ∧ f1.type = 3 ∧ f1.offset = 1 := ⟨_, _, Tryz.underlying37, rfl, rfl, rfl, rfl⟩
theorem fac_cells : PU.cellsOf 37 = 2 := by kernel_rfl
/-- a factor whose exponent is an int -/
abbrev FacI := { f : Fac // iOk f.e }
instance : Inhabited FacI := ⟨⟨⟨[], 0⟩, by decide⟩⟩
set_option maxRecDepth 100000 in
theorem elem_fac {H : Type} {enc : TypeId × Value → H} {W : World} : ElemOk PU W enc 37 fun f : FacI => facA f.1 := by
  intro n cs x h
  obtain ⟨f0, f1, hu, t0, o0, t1, o1⟩ := fac_struct
  obtain ⟨xs, m, _, _, hlen, hxl, hf⟩ := DataW.trod_struct hu h
  rw [fac_cells] at hlen
  have h0 := hf 0 f0 rfl
  have h1 := hf 1 f1 rfl
  rw [t0, o0, str_cells] at h0
  rw [t1, o1, int_cells] at h1
  match cs, hlen, xs, hxl with
  | [c0, c1], _, [y0, y1], _ =>
    simp at h0 h1
    obtain ⟨s, e0, _, _⟩ := DataW.trod_string Tryz.underlying9 h0
    obtain ⟨k, e1, _, wk⟩ := DataW.trod_int Tryz.underlying3 h1
    simp at e0 e1
    subst e0; subst e1
    refine ⟨⟨⟨s.data.toList, k⟩, int_rng wk⟩, fun E j c u hc hu => ?_⟩
    match j, hc, hu with
    | 0, hc, hu => simp [facA, AV.cells] at hc hu; subst hc; subst hu; exact ⟨mk_str s, rfl⟩
    | 1, hc, hu => simp [facA, AV.cells] at hc hu; subst hc; subst hu; exact ⟨.int _ _, rfl⟩
    | j + 2, hc, hu => simp [facA, AV.cells] at hc
/-! what a bound on what is read gives -/
namespace Bulks
theorem one_le {H : Type} (d : DataW H) : 1 ≤ Rows.uptoBulk d := by
  cases d with
  | lit l => cases l <;> simp [Rows.uptoBulk]
  | nil => simp [Rows.uptoBulk]
  | ptr d => simp [Rows.uptoBulk]
  | slice elems spare => simp [Rows.uptoBulk]
  | agg parts => simp [Rows.uptoBulk]
  | iface t d => simp [Rows.uptoBulk]
  | map entries => simp [Rows.uptoBulk]
  | held h => simp [Rows.uptoBulk]

/-- a part's bulk is at most the whole's -/
theorem part_le {H : Type} {d : DataW H} {l : List (DataW H)} (h : d ∈ l) : Rows.uptoBulk d ≤ Rows.uptoBulkAll l := by
  induction l with
  | nil => cases h
  | cons x r ih =>
    simp only [Rows.uptoBulkAll]
    cases List.mem_cons.1 h with
    | inl e => subst e; omega
    | inr e => have := ih e; omega

theorem append {H : Type} (l r : List (DataW H)) : Rows.uptoBulkAll (l ++ r) = Rows.uptoBulkAll l + Rows.uptoBulkAll r := by
  induction l with
  | nil => simp [Rows.uptoBulkAll]
  | cons x l ih => simp only [List.cons_append, Rows.uptoBulkAll, ih]; omega

/-- so many values at the most -/
theorem length_le {H : Type} (l : List (DataW H)) : l.length ≤ Rows.uptoBulkAll l := by
  induction l with
  | nil => simp [Rows.uptoBulkAll]
  | cons x r ih => have := one_le x; simp only [Rows.uptoBulkAll, List.length_cons]; omega

/-- a slice's places, and what they hold -/
theorem slice_le {H : Type} (elems spare : List (DataW H)) : elems.length + spare.length + 1 ≤ Rows.uptoBulk (.slice elems spare) := by
  have h1 := length_le elems
  have h2 := length_le spare
  simp only [Rows.uptoBulk]
  omega
theorem slice_elems {H : Type} (elems spare : List (DataW H)) : Rows.uptoBulkAll elems + 1 ≤ Rows.uptoBulk (.slice elems spare) := by
  simp only [Rows.uptoBulk]
  omega

/-- a string's letters -/
theorem string_eq {H : Type} (bytes : List UInt8) : Rows.uptoBulk (DataW.lit (H := H) (.string bytes)) = bytes.length + 1 := by
  simp [Rows.uptoBulk]

/-- THE BOUND, as the builder hands it over ('hk') -/
theorem bound {H : Type} {l : List (DataW H)} (hk : Rows.uptoSmall H l = true) : Rows.uptoBulkAll l ≤ 1048576 := by
  simpa [Rows.uptoSmall] using hk

end Bulks
set_option maxRecDepth 100000 in
theorem open_facsA {H : Type} {enc : TypeId × Value → H} {W : World} {v : Value} {d : DataW H} {ps : List MemPlace} {b0 : Nat} (hv : Value.okWide PU W .any b0 22 v) (h : DataW.Trod enc PU W 0 (fun _ => true) true 22 v d ps) :
    ∃ l : List Fac, Rep (oldE W) W (.sl 2 (facsL l) .no) v ∧ hugeOk l ∧ (∀ f ∈ l, iOk f.e) ∧ l.length ≤ Rows.uptoBulk d := by
  obtain ⟨l, hl⟩ := open_slA (P := PU) (g := fun f : FacI => facA f.1) (sz := 2) Tryz.underlying22 fac_cells (by omega) (fun _ => ⟨rfl, rfl⟩) elem_fac hv h
  have e : l.map (fun f : FacI => facA f.1) = facsL (l.map (·.1)) := by unfold facsL; rw [List.map_map]; rfl
  rw [e] at hl
  refine ⟨l.map (·.1), hl, ?_, fun f hf => ?_, ?_⟩
  · have := rep_len hl
    rw [List.length_map] at this; exact this
  · obtain ⟨g, _, rfl⟩ := List.mem_map.1 hf
    exact g.2
  · obtain ⟨fuel, h⟩ := h
    have hlen : ∃ A cap, v = .slice A (l.map (·.1)).length cap := by
      generalize l.map (·.1) = k at hl
      have e2 : (facsL k).length = k.length := List.length_map ..
      generalize facsL k = es at hl e2
      cases hl with | sl _ _ _ A cap u _ _ _ _ _ _ _ _ => exact ⟨_, _, by rw [e2]⟩
    obtain ⟨A, cap, rfl⟩ := hlen
    rcases open_slice Tryz.underlying22 h with ⟨hcs, _⟩ | ⟨a', len', cap', m, n, D, Pl, hcs, hb, hlc, hmx, hm, hx, hels⟩
    · simp [Value.cells] at hcs; simp [hcs.2.1]
    · simp only [Value.cells, List.cons.injEq, Value.slice.injEq, and_true] at hcs
      have hx1 := congrArg Prod.fst hx
      simp only at hx1
      subst hx1
      have := Bulks.slice_le ((List.range len').map D) ((List.range (m - len')).map fun j => D (len' + j))
      rw [List.length_map, List.length_range] at this
      rw [hcs.2.1]; omega
set_option maxRecDepth 100000 in
theorem open_strU {H : Type} {enc : TypeId × Value → H} {W : World} {v : Value} {d : DataW H} {ps : List MemPlace} {b0 : Nat} (hv : Value.okWide PU W .any b0 9 v) (h : DataW.Trod enc PU W 0 (fun _ => true) true 9 v d ps) :
    ∃ l : List UInt8, Rep (oldE W) W (.str l) v ∧ l.length ≤ Rows.uptoBulk d := by
  obtain ⟨s, rfl, rfl, _⟩ := open_string Tryz.underlying9 hv h
  refine ⟨s.data.toList, mk_str s, ?_⟩
  rw [Bulks.string_eq]; omega
set_option maxRecDepth 100000 in
theorem open_u8A {H : Type} {enc : TypeId × Value → H} {W : World} {v : Value} {d : DataW H} {ps : List MemPlace} {b0 : Nat} (hv : Value.okWide PU W .any b0 5 v) (h : DataW.Trod enc PU W 0 (fun _ => true) true 5 v d ps) : ∃ n : Int, Rep (oldE W) W (.int .u8 n) v ∧ 0 ≤ n ∧ n < 256 := by
  obtain ⟨n, rfl⟩ := okWide_int Tryz.underlying5 hv
  obtain ⟨fuel, h⟩ := h
  obtain ⟨k, e, _, hw⟩ := DataW.trod_int Tryz.underlying5 h
  simp [Value.cells] at e
  subst e
  refine ⟨n, .int _ _, ?_⟩
  simp [Lit.wf, IntKind.min, IntKind.max, IntKind.signed, IntKind.bits] at hw
  omega
theorem witness_row_shaped {H : Type} {enc : TypeId × Value → H} {C : Checked} {os : Os} {f : FuncId} {fn : Func} {s : OpenSpec} {conds : List PathCond} {apart : Bool} {laid : List (String × DataW Unit)} (w0 : World) (args : Array Value) (hos : w0.os = os)
    (hsh : (w0.forCall (fun _ _ => 0) ⟨#[], args, []⟩).Shaped C.prog)
    (hok : Input.okWideB C.prog (w0.forCall (fun _ _ => 0) ⟨#[], args, []⟩) f ⟨#[], args, []⟩ = true)
    (hrow : s.preRow enc C.prog fn conds apart laid (w0.forCall (fun _ _ => 0) ⟨#[], args, []⟩).memory args) :
    ∃ (w : World) (tape : Tape) (i : Input), w.os = os ∧ (w.forCall tape i).Shaped C.prog ∧ i.vars = [] ∧ Input.okWide C.prog (w.forCall tape i) .any w.heap.size f i ∧
      s.preRow enc C.prog fn conds apart laid (w.forCall tape i).memory i.args ∧ ({} : Assume).holds C.prog (lone (Frame.enter C.prog f i.args .normal) [] (w.forCall tape i)) :=
  ⟨w0, fun _ _ => 0, ⟨#[], args, []⟩, hos, hsh, (Input.okWide_of_okWideB (base := 0) hok).1, (Input.okWide_of_okWideB hok).2, hrow, by
    simp only [Assume.holds]
    exact ⟨by simp, by simp, fun _ => Modest.zero, by simp, by simp⟩⟩

end Go.Abs

namespace Go.Abs
open Go.ChangeShapes Go.WideShapes Go.ChangeAt Go.RowKit Go.Deep Go.ChangeMaps
section
variable {H : Type} {enc : TypeId × Value → H} {P : Program} {W : World}
def ElemQ (P : Program) (W : World) (enc : TypeId × Value → H) (e : TypeId) {α : Type} (g : α → AV) (Q : α → DataW H → Prop) : Prop :=
  ∀ n cs x, DataW.trod enc P W 0 (fun _ => true) true n e cs = some x → ∃ a : α, Q a x.1 ∧ ∀ E (j : Nat) (c : AV) (u : Value), (g a).cells[j]? = some c → cs[j]? = some u → Rep E W c u ∧ u.oneCell' = true
theorem open_slQ {t e : TypeId} {sz : Nat} {α : Type} [Inhabited α] {g : α → AV} {Q : α → DataW H → Prop} (ht : P.underlying t = some (.slice e)) (hc : P.cellsOf e = sz) (hsz : 0 < sz) (hg : ∀ a, (g a).cells.length = sz ∧ (g a).closed1 = true) (hel : ElemQ P W enc e g Q)
    {v : Value} {d : DataW H} {ps : List MemPlace} (hv : ∃ A len cap, v = .slice A len cap) (h : DataW.Trod enc P W 0 (fun _ => true) true t v d ps) :
    ∃ l : List α, Rep (oldE W) W (.sl sz (l.map g) .no) v ∧ (l = [] ∨ ∃ elems spare, d = .slice elems spare ∧ elems.length = l.length ∧ ∀ (i : Nat) a x, l[i]? = some a → elems[i]? = some x → Q a x) := by
  obtain ⟨a, len, cap, rfl⟩ := hv
  obtain ⟨fuel, h⟩ := h
  rcases open_slice ht h with ⟨hcs, _⟩ | ⟨a', len', cap', m, n, D, Pl, hcs, hb, hl, hmx, hm, hx, hels⟩
  · simp [Value.cells] at hcs
    obtain ⟨rfl, rfl, rfl⟩ := hcs
    exact ⟨[], .sl sz [] .no none 0 (fun _ _ => .bool false) (by simp) (by simp [maxLen]) (.inl rfl) (by simp) (by simp) trivial (by simp) (fun _ _ => rfl), .inl rfl⟩
  · simp [Value.cells] at hcs
    obtain ⟨rfl, rfl, rfl⟩ := hcs
    have hm' : m = cap := by simpa using hm
    have hch : ∀ i, i < len → ∃ x : α × List Value, x.2.length = sz ∧ (∀ j, j < sz → W.cell? (a'.add (i * sz + j)) = x.2[j]?) ∧ Q x.1 (D i) ∧ ∀ E (j : Nat) (c : AV) (u : Value), (g x.1).cells[j]? = some c → x.2[j]? = some u → Rep E W c u ∧ u.oneCell' = true := fun i hi => by
      obtain ⟨cs, hcs, ht'⟩ := hels i (by omega)
      rw [hc] at hcs
      obtain ⟨_, hlen, hat⟩ := World.cells?_some hcs
      obtain ⟨x, hq, hx⟩ := hel n cs _ ht'
      refine ⟨(x, cs), hlen, fun j hj => ?_, hq, hx⟩
      have := hat j hj
      rw [Go.Deep.add_add] at this
      exact this
    obtain ⟨f, hf⟩ := choose_lt hch
    refine ⟨(List.range len).map fun i => (f i).1, ?_, .inr ?_⟩
    · have hlen : ((List.range len).map fun i => (f i).1).length = len := by simp
      have hln : (((List.range len).map fun i => (f i).1).map g).length = len := by simp
      have hget : ∀ (i : Nat) (e' : AV), (((List.range len).map fun i => (f i).1).map g)[i]? = some e' → i < len ∧ e' = g (f i).1 := fun i e' h => by
        have hi : i < len := by
          have := (List.getElem?_eq_some_iff.1 h).1
          simpa using this
        refine ⟨hi, ?_⟩
        simp [List.getElem?_range hi] at h
        exact h.symm
      let u : Nat → Nat → Value := fun i j => if i < len ∧ j < sz then ((f i).2[j]?).getD (.bool false) else .bool false
      have hu : ∀ i j, i < len → j < sz → (f i).2[j]? = some (u i j) := fun i j hi hj => by
        have h2 : j < (f i).2.length := by rw [(hf i hi).1]; exact hj
        simp only [u, hi, hj, and_self, if_true, List.getElem?_eq_getElem h2, Option.getD_some]
      have key := Rep.sl (E := oldE W) (w := W) sz (((List.range len).map fun i => (f i).1).map g) .no (some a') cap u (by rw [hln]; exact hl) hmx ?_ ?_ ?_ trivial ?_ ?_
      · rw [hln] at key; exact key
      · rcases Nat.eq_zero_or_pos len with h0 | h0
        · left; subst h0; rfl
        · right
          have h1 := (hf 0 h0).2.1 0 hsz
          rw [hu 0 0 h0 hsz] at h1
          have hadd : a'.add (0 * sz + 0) = a' := by unfold Addr.add; simp
          rw [hadd] at h1
          have hp := addr_plain h1
          refine ⟨a'.block, a'.off, by rw [← hp], fun i e' j c hi hj => ?_⟩
          obtain ⟨hlt, rfl⟩ := hget i e' hi
          have hjs : j < sz := by
            have := (List.getElem?_eq_some_iff.1 hj).1
            rw [(hg _).1] at this; exact this
          have h2 := (hf i hlt).2.1 j hjs
          rw [hu i j hlt hjs, hp, addp] at h2
          have e : a'.off + i * sz + j = a'.off + (i * sz + j) := by omega
          refine ⟨cell_lt h1, by rw [e]; exact h2⟩
      · intro e' he
        obtain ⟨x, hx, rfl⟩ := List.mem_map.1 he
        exact (hg x).1
      · intro e' he
        obtain ⟨x, hx, rfl⟩ := List.mem_map.1 he
        exact (hg x).2
      · intro i e' j c hi hj
        obtain ⟨hlt, rfl⟩ := hget i e' hi
        have hjs : j < sz := by
          have := (List.getElem?_eq_some_iff.1 hj).1
          rw [(hg _).1] at this; exact this
        exact ((hf i hlt).2.2.2 _ j c (u i j) hj (hu i j hlt hjs)).1
      · intro i j
        by_cases hij : i < len ∧ j < sz
        · have hjs : j < (g (f i).1).cells.length := by rw [(hg _).1]; exact hij.2
          exact ((hf i hij.1).2.2.2 (oldE W) j _ (u i j) (List.getElem?_eq_getElem hjs) (hu i j hij.1 hij.2)).2
        · simp only [u, if_neg hij]; rfl
    · have hx1 := congrArg Prod.fst hx
      simp only at hx1
      refine ⟨_, _, hx1, by simp, fun i a x hi hxi => ?_⟩
      have hlt : i < len := by
        have := (List.getElem?_eq_some_iff.1 hi).1
        simpa using this
      simp [List.getElem?_range hlt] at hi hxi
      subst hi; subst hxi
      exact (hf i hlt).2.2.1
end
end Go.Abs
