/-
  The walk over the law SketchQuantiles.
-/
import Derived.Test.YthppcgafanognaaLawC
namespace Go.Proofs.Ythppcgafanognaa
open Go.RowKit

theorem idx_mono {n m : Int} (hn : I64 n) (hm : I64 m) (h : n ≤ m) : idx n ≤ idx m := by
  obtain ⟨n0, n1⟩ := hn
  obtain ⟨m0, m1⟩ := hm
  unfold idx
  by_cases h1 : n < 0
  · rw [if_pos h1]
    by_cases h2 : m < 0
    · rw [if_pos h2]
      have := bk_mono (-m).toNat (-n).toNat (by omega) (by omega); omega
    · rw [if_neg h2]; omega
  · rw [if_neg h1, if_neg (by omega)]
    have := bk_mono n.toNat m.toNat (by omega) (by omega); omega
theorem mul_split (N p : Int) : p * N = 1000 * (N / 1000 * p) + N % 1000 * p := by
  have h : N = 1000 * (N / 1000) + N % 1000 := (Int.mul_ediv_add_emod N 1000).symm
  calc p * N = N * p := Int.mul_comm _ _
    _ = (1000 * (N / 1000) + N % 1000) * p := by rw [← h]
    _ = _ := by rw [Int.add_mul, Int.mul_assoc]
theorem cle_all {l : List Int} {i : Int} (h : (l.length : Int) ≤ cLt l i + cEq l i) : ∀ n ∈ l, idx n ≤ i := by
  induction l with
  | nil => simp
  | cons x t ih =>
    have a := cLt_le t i
    have hlt : cLt (x :: t) i = cLt t i + if idx x < i then 1 else 0 := by simp [cLt, List.countP_cons]
    have heq : cEq (x :: t) i = cEq t i + if idx x = i then 1 else 0 := by simp [cEq, List.countP_cons]
    have hsum : cLt t i + cEq t i ≤ t.length := by
      clear ih h hlt heq a
      induction t with
      | nil => simp [cLt, cEq]
      | cons y t ih =>
        have h1 : cLt (y :: t) i = cLt t i + if idx y < i then 1 else 0 := by simp [cLt, List.countP_cons]
        have h2 : cEq (y :: t) i = cEq t i + if idx y = i then 1 else 0 := by simp [cEq, List.countP_cons]
        rw [h1, h2, List.length_cons]
        split <;> split <;> omega
    rw [hlt, heq, List.length_cons] at h
    intro n hn
    rcases List.mem_cons.1 hn with rfl | hn
    · split at h <;> split at h <;> omega
    · exact ih (by split at h <;> split at h <;> omega) n hn
theorem clt_ex {l : List Int} {i : Int} (h : cLt l i < l.length) : ∃ n ∈ l, i ≤ idx n := by
  by_cases hc : ∃ n ∈ l, i ≤ idx n
  · exact hc
  · have : cLt l i = l.length := List.countP_eq_length.2 fun n hn => by
      have : ¬ i ≤ idx n := fun h => hc ⟨n, hn, h⟩
      simpa using this
    omega
theorem cle_mono {l : List Int} {i j : Int} (h : i < j) : cLt l i + cEq l i ≤ cLt l j := by
  induction l with
  | nil => simp [cLt, cEq]
  | cons y t ih =>
    have h1 : cLt (y :: t) i = cLt t i + if idx y < i then 1 else 0 := by simp [cLt, List.countP_cons]
    have h2 : cEq (y :: t) i = cEq t i + if idx y = i then 1 else 0 := by simp [cEq, List.countP_cons]
    have h3 : cLt (y :: t) j = cLt t j + if idx y < j then 1 else 0 := by simp [cLt, List.countP_cons]
    rw [h1, h2, h3]
    split <;> split <;> split <;> omega

/-- where the quantile stands -/
def QAt (l : List Int) (p i : Int) : Prop := -1888 ≤ i ∧ i ≤ 1887 ∧ (cLt l i : Int) < place l.length p ∧ place l.length p ≤ cLt l i + cEq l i
theorem quant_some {m : Bks} {l : List Int} {p : Int} (hm : Asc m) (fm : WfB m) (hk : Keys m) (ht : ∀ k, tot m k = tot (ones l) k) (hl : l.length ≤ 9223372036854775807) (h1 : 1 ≤ p) (h2 : p ≤ 1000) (h0 : 1 ≤ l.length) :
    ∃ i, quantile m p = some (low i) ∧ QAt l p i := by
  have hc := count_of hm fm ht hl
  obtain ⟨b0, b1, b2, b3, _, _⟩ := place_bounds (l.length : Int) p (by omega) h1 h2
  have e : quantile m p = rank m (place l.length p) := by unfold quantile; rw [hc, if_neg (by omega)]
  obtain ⟨i, i0, i1, hr, hlt, hle⟩ := rank_some (r := place l.length p) hm fm hk ht hl (by unfold place; omega) (by unfold place; omega)
  exact ⟨i, by rw [e, hr], i0, i1, hlt, hle⟩
theorem quant_none {m : Bks} {l : List Int} {p : Int} (hm : Asc m) (fm : WfB m) (ht : ∀ k, tot m k = tot (ones l) k) (hl : l.length ≤ 9223372036854775807) (h : p < 1 ∨ 1000 < p ∨ l.length = 0) : quantile m p = none := by
  unfold quantile
  rw [if_pos (by rw [count_of hm fm ht hl]; omega)]
theorem qat_bounds {l : List Int} {p i : Int} (h : QAt l p i) (h1 : 1 ≤ p) (h2 : p ≤ 1000) (h0 : 1 ≤ l.length) : p * l.length ≤ 1000 * (cLt l i + cEq l i) ∧ (0 < cLt l i → 1000 * (cLt l i : Int) < p * l.length) := by
  obtain ⟨_, _, h3, h4⟩ := h
  have hs := mul_split l.length p
  obtain ⟨b0, b1, b2, b3, _, _⟩ := place_bounds (l.length : Int) p (by omega) h1 h2
  unfold place at h3 h4
  generalize (l.length : Int) / 1000 * p = a at *
  generalize (l.length : Int) % 1000 * p = b at *
  generalize p * (l.length : Int) = c at *
  omega
theorem qat_top {l : List Int} {i t : Int} (h : QAt l 1000 i) (h0 : 1 ≤ l.length) (hf : ∀ n ∈ l, I64 n) (ht : t ∈ l) (hm : ∀ n ∈ l, n ≤ t) : i = idx t := by
  obtain ⟨_, _, h3, h4⟩ := h
  have e : place l.length 1000 = l.length := by unfold place; omega
  rw [e] at h3 h4
  have a := cle_all h4 t ht
  obtain ⟨n, hn, hi⟩ := clt_ex (l := l) (i := i) (by omega)
  have b := idx_mono (hf n hn) (hf t ht) (hm n hn)
  omega
theorem qat_mono {l : List Int} {p q i j : Int} (h : QAt l p i) (k : QAt l q j) (hpq : p ≤ q) : low i ≤ low j := by
  obtain ⟨i0, i1, h3, h4⟩ := h
  obtain ⟨j0, j1, k3, k4⟩ := k
  have hp : place l.length p ≤ place l.length q := by
    have a : (l.length : Int) / 1000 * p ≤ (l.length : Int) / 1000 * q := Int.mul_le_mul_of_nonneg_left hpq (by omega)
    have b : (l.length : Int) % 1000 * p ≤ (l.length : Int) % 1000 * q := Int.mul_le_mul_of_nonneg_left hpq (by omega)
    unfold place; omega
  rcases Int.lt_trichotomy i j with h | h | h
  · have := low_lt i j i0 j1 h; omega
  · subst h; omega
  · have := cle_mono (l := l) h; omega

/-- the greatest -/
def topOf (t : Int) (l : List Int) : Int := l.foldl max t
theorem topOf_snoc {l : List Int} {k : Nat} {x t : Int} (h : l[k]? = some x) : topOf t (l.take (k + 1)) = max (topOf t (l.take k)) x := by
  rw [take_snoc h]; simp [topOf, List.foldl_append]
theorem topOf_ge : ∀ (l : List Int) (t : Int), t ≤ topOf t l ∧ (∀ n ∈ l, n ≤ topOf t l) ∧ (topOf t l = t ∨ topOf t l ∈ l)
  | [], t => by simp [topOf]
  | x :: l, t => by
    obtain ⟨h1, h2, h3⟩ := topOf_ge l (max t x)
    show t ≤ topOf (max t x) l ∧ (∀ n ∈ x :: l, n ≤ topOf (max t x) l) ∧ (topOf (max t x) l = t ∨ topOf (max t x) l ∈ x :: l)
    refine ⟨by omega, fun n hn => ?_, ?_⟩
    · rcases List.mem_cons.1 hn with rfl | hn
      · omega
      · exact h2 n hn
    · rcases h3 with h3 | h3
      · rw [h3]
        by_cases h : t ≤ x
        · right; rw [Int.max_eq_right h]; simp
        · left; omega
      · right; simp [h3]
theorem topOf_range {l : List Int} {t : Int} (ht : I64 t) (hl : ∀ n ∈ l, I64 n) : I64 (topOf t l) := by
  rcases (topOf_ge l t).2.2 with h | h
  · rw [h]; exact ht
  · exact hl _ h

theorem cLe_snoc {l : List Int} {k : Nat} {x i : Int} (h : l[k]? = some x) : cLt (l.take (k + 1)) i + cEq (l.take (k + 1)) i = cLt (l.take k) i + cEq (l.take k) i + if idx x ≤ i then 1 else 0 := by
  rw [cLt_snoc h, cEq_snoc h]; split <;> split <;> split <;> omega

set_option maxHeartbeats 4000000 in
theorem sketchQuantiles_walk (w : World) (A : Option Addr) (c : Nat) (l : List Int) (ha : Arr w ienc 1 A l) (hf : ∀ n ∈ l, I64 n) (hl : l.length ≤ 17592186044416) (p : Int) (hp : I64 p) (more : Int) (hmore : I64 more) :
    Calls Try.prog 7 #[.slice A l.length c, .int .i64 p, .int .i64 more] w fun e w' => e = .returned (.bool true) ∧ Below w.heap.size w w' := by
  have HA := Lib.hid ha
  have HF := Lib.hid hf
  obtain ⟨hp0, hp1⟩ := hp
  obtain ⟨hm0, hm1⟩ := hmore
  clear ha hf
  by_cases hout : p < 1 ∨ 1000 < p ∨ l.length = 0
  · go_enter Try.func7, Try.ntmps7
    go_wp2_with fail
    refine (example_any _).mono ?_
    rintro e w1 ⟨rfl, hb1⟩
    have X1 := Lib.hid (show Ext w w1 from hb1)
    clear hb1
    go_wp2_with fail
    refine (all_any A c l w1 (HA.out.ext X1.out) HF.out (by omega)).mono ?_
    rintro e w2 ⟨B, d, m, rfl, hm, sm, fm, km, tm, b2⟩
    have HR := Lib.hid (quant_none sm fm tm (by omega) hout)
    have hml := keys_length sm km
    have HM := Lib.hid hm
    have X2 := Lib.hid (X1.out.trans b2)
    clear hm sm fm km tm b2 X1
    go_wp2_with fail
    have hc := quantile_any B d m p w2 (by omega) HM.out
    rw [HR.out, show opt none = .tuple #[.int .i64 0, .bool false] from rfl] at hc
    refine hc.mono ?_
    clear hc
    rintro e w3 ⟨rfl, b3⟩
    have X3 := Lib.hid (X2.out.trans b3)
    clear b3 X2
    by_cases h1 : p < 1
    · clear hout
      go_wp2_with fail
      go_ret
      exact ⟨rfl, X3.out⟩
    · by_cases h2 : 1000 < p
      · clear hout
        go_wp2_with fail
        go_ret
        exact ⟨rfl, X3.out⟩
      · have h3 : l = [] := List.eq_nil_of_length_eq_zero (by omega)
        subst h3
        clear hout
        go_wp2_with fail
        go_ret
        exact ⟨rfl, X3.out⟩
  · have h1' : ¬ p < 1 := by omega
    have h2' : ¬ 1000 < p := by omega
    have h3' : ((l.length : Int) == 0) = false := by rw [beq_eq_false_iff_ne]; omega
    have hpos : 0 < l.length := by omega
    clear hout
    go_enter Try.func7, Try.ntmps7
    go_wp2_with fail
    refine (example_any _).mono ?_
    rintro e w1 ⟨rfl, hb1⟩
    have X1 := Lib.hid (show Ext w w1 from hb1)
    clear hb1
    go_wp2_with fail
    refine (all_any A c l w1 (HA.out.ext X1.out) HF.out (by omega)).mono ?_
    rintro e w2 ⟨B, d, m, rfl, hm, sm, fm, km, tm, b2⟩
    obtain ⟨i, hR, hQ⟩ := quant_some sm fm km tm (by omega) (show 1 ≤ p by omega) (by omega) hpos
    obtain ⟨j, hR2, hQ2⟩ := quant_some sm fm km tm (by omega) (show (1 : Int) ≤ 1000 by omega) (by omega) hpos
    have hml := keys_length sm km
    have HR := Lib.hid hR
    have HR2 := Lib.hid hR2
    have HQ := Lib.hid hQ
    have HQ2 := Lib.hid hQ2
    have HM := Lib.hid hm
    have HS := Lib.hid (show Asc m ∧ WfB m ∧ Keys m ∧ ∀ k, tot m k = tot (ones l) k from ⟨sm, fm, km, tm⟩)
    have X2 := Lib.hid (X1.out.trans b2)
    clear hm sm fm km tm b2 X1 hR hR2 hQ hQ2
    obtain ⟨v, hv⟩ : ∃ v, low i = v := ⟨_, rfl⟩
    rw [hv] at HR
    have HVl := Lib.hid hv
    clear hv
    go_wp2_with fail
    have hc := quantile_any B d m p w2 (by omega) HM.out
    rw [HR.out, show opt (some v) = .tuple #[.int .i64 v, .bool true] from rfl] at hc
    refine hc.mono ?_
    clear hc
    rintro e w3 ⟨rfl, b3⟩
    have HM3 := Lib.hid (HM.out.ext b3)
    have X3 := Lib.hid (X2.out.trans b3)
    clear b3 X2 HM HR
    obtain ⟨g, off, x0, rfl, _, HX0, c00⟩ := (HA.out.ext X3.out).int_ hpos
    simp only [Nat.add_zero] at c00
    have hposi : (0 : Int) < (l.length : Int) := by omega
    go_wp2_with fail
    go_quiet (fail)
    clear c00
    go_wp2_with fail
    obtain ⟨hi0, hi1, _, _⟩ := HQ.out
    go_loop [11, 12, 13, 14] (fun a b t k => ∃ (j : Nat) (p q : Nat) (y : Int), j ≤ l.length ∧ k = .int .i64 j ∧ a = .int .i64 p ∧ b = .int .i64 q ∧ t = .int .i64 y ∧ p ≤ j ∧ q ≤ j ∧ Hid (p = cLt (l.take j) i) ∧ Hid (q = cLt (l.take j) i + cEq (l.take j) i) ∧ Hid (y = topOf x0 (l.take j))) (fun _ _ _ k => l.length - (intOf k).toNat)
    case atStart => exact ⟨0, 0, 0, x0, Nat.zero_le _, rfl, rfl, rfl, rfl, Nat.le_refl _, Nat.le_refl _, rfl, rfl, rfl⟩
    case round =>
      obtain ⟨j', p', q', y', hj, rfl, rfl, rfl, rfl, hp, hq, HP, HQ', HY⟩ := hrel
      by_cases hjl : j' < l.length
      · obtain ⟨g', off', x, hA, _, HX, c0⟩ := (HA.out.ext X3.out).int_ hjl
        obtain ⟨rfl, rfl⟩ : g = g' ∧ off = off' := by simpa using hA
        obtain ⟨hx0, hx1⟩ := HF.out x (List.mem_of_getElem? HX.out)
        have hjr := idx_range x hx0 hx1
        have HI := Lib.hid (fun w => Index_any len64 x w hx0 hx1)
        have hsl := cLt_snoc (i := i) HX.out
        have hse := cLe_snoc (i := i) HX.out
        have HT := Lib.hid (topOf_snoc (t := x0) HX.out)
        obtain ⟨t, htt⟩ : ∃ t, idx x = t := ⟨_, rfl⟩
        rw [htt] at hjr HI hsl hse
        obtain ⟨ha, hb⟩ := low_lt_iff hjr.1 hjr.2 hi0 hi1
        have HL := Lib.hid (fun w => Low_any t w)
        obtain ⟨y, hy⟩ : ∃ y, low t = y := ⟨_, rfl⟩
        rw [hy] at HL ha hb
        rw [HVl.out] at ha hb
        clear hy htt hA
        rcases Int.lt_trichotomy t i with h | h | h
        · have h1 : y < v := by omega
          have h2 : y ≤ v := by omega
          rw [if_pos h] at hsl
          rw [if_pos (by omega)] at hse
          have HS := Lib.hid hsl
          have HE := Lib.hid hse
          clear hsl hse ha hb h hjr hx0 hx1 hi0 hi1 hml hp0 hp1 hm0 hm1 h1' h2' hpos hposi
          go_wp2_with (first
            | (go_at_call 13; refine (HI.out _).mono ?_; rintro e w4 ⟨rfl, rfl⟩)
            | (go_at_call 15; refine (HL.out _).mono ?_; rintro e w4 ⟨rfl, rfl⟩))
          all_goals
            go_round
            case rel => exact ⟨j' + 1, p' + 1, q' + 1, _, by omega, by go_num, by go_num, by go_num, rfl, by omega, by omega, by show _ = _; rw [HS.out, HP.out], by show _ = _; rw [HE.out, HQ'.out], by show _ = _; rw [HT.out, HY.out]⟩
            case measure => simp [intOf]; omega
        · have h1 : ¬ y < v := by omega
          have h2 : y ≤ v := by omega
          rw [if_neg (by omega)] at hsl
          rw [if_pos (by omega)] at hse
          have HS := Lib.hid hsl
          have HE := Lib.hid hse
          clear hsl hse ha hb h hjr hx0 hx1 hi0 hi1 hml hp0 hp1 hm0 hm1 h1' h2' hpos hposi
          go_wp2_with (first
            | (go_at_call 13; refine (HI.out _).mono ?_; rintro e w4 ⟨rfl, rfl⟩)
            | (go_at_call 15; refine (HL.out _).mono ?_; rintro e w4 ⟨rfl, rfl⟩))
          all_goals
            go_round
            case rel => exact ⟨j' + 1, p', q' + 1, _, by omega, by go_num, rfl, by go_num, rfl, by omega, by omega, by show _ = _; rw [HS.out, HP.out]; rfl, by show _ = _; rw [HE.out, HQ'.out], by show _ = _; rw [HT.out, HY.out]⟩
            case measure => simp [intOf]; omega
        · have h1 : ¬ y < v := by omega
          have h2 : ¬ y ≤ v := by omega
          rw [if_neg (by omega)] at hsl
          rw [if_neg (by omega)] at hse
          have HS := Lib.hid hsl
          have HE := Lib.hid hse
          clear hsl hse ha hb h hjr hx0 hx1 hi0 hi1 hml hp0 hp1 hm0 hm1 h1' h2' hpos hposi
          go_wp2_with (first
            | (go_at_call 13; refine (HI.out _).mono ?_; rintro e w4 ⟨rfl, rfl⟩)
            | (go_at_call 15; refine (HL.out _).mono ?_; rintro e w4 ⟨rfl, rfl⟩))
          all_goals
            go_round
            case rel => exact ⟨j' + 1, p', q', _, by omega, by go_num, rfl, rfl, rfl, by omega, by omega, by show _ = _; rw [HS.out, HP.out]; rfl, by show _ = _; rw [HE.out, HQ'.out]; rfl, by show _ = _; rw [HT.out, HY.out]⟩
            case measure => simp [intOf]; omega
      · obtain rfl : j' = l.length := by omega
        rw [List.take_length] at HP HQ' HY
        have hx0r := HF.out x0 (List.mem_of_getElem? HX0.out)
        have htg := topOf_ge l x0
        have hty : y' ∈ l ∧ ∀ n ∈ l, n ≤ y' := by
          rw [HY.out]
          refine ⟨?_, htg.2.1⟩
          rcases htg.2.2 with h | h
          · rw [h]; exact List.mem_of_getElem? HX0.out
          · exact h
        have hyr := HF.out y' hty.1
        have hj := qat_top HQ2.out hpos HF.out hty.1 hty.2
        have hb := qat_bounds HQ.out (by omega) (by omega) hpos
        rw [← HP.out] at hb
        have hcq : ((cLt l i : Nat) : Int) + (cEq l i : Nat) = (q' : Int) := by rw [HQ'.out]; omega
        rw [HP.out, hcq, ← HP.out] at hb
        obtain ⟨hb1, hb2⟩ := hb
        have hpl : 0 ≤ p * (l.length : Int) := Int.mul_nonneg (by omega) (by omega)
        subst hj
        have HI := Lib.hid (fun w => Index_any len64 y' w hyr.1 hyr.2)
        have HL := Lib.hid (fun w => Low_any (idx y') w)
        obtain ⟨u, hu⟩ : ∃ u, low (idx y') = u := ⟨_, rfl⟩
        rw [hu] at HL HR2
        obtain ⟨a3, b3, HQ3, HV3⟩ : ∃ a3 b3, Hid (opt (quantile m more) = .tuple #[.int .i64 a3, .bool b3]) ∧ Hid (p ≤ more → more ≤ 1000 → b3 = true ∧ v ≤ a3) := by
          by_cases hm : p ≤ more ∧ more ≤ 1000
          · obtain ⟨k, hk, hq⟩ := quant_some HS.out.1 HS.out.2.1 HS.out.2.2.1 HS.out.2.2.2 (by omega) (show 1 ≤ more by omega) hm.2 hpos
            exact ⟨low k, true, by show _ = _; rw [hk]; rfl, fun _ _ => ⟨rfl, by rw [← HVl.out]; exact qat_mono HQ.out hq hm.1⟩⟩
          · exact ⟨_, _, rfl, fun h1 h2 => absurd ⟨h1, h2⟩ hm⟩
        clear hu hx0r htg hty hyr HP HQ' HY HS HQ HQ2 HX0 HF HA hcq hi0 hi1 hposi
        obtain ⟨w5, hw5⟩ : ∃ w5, w3.drewN nq = w5 := ⟨_, rfl⟩
        have X5 : Hid (Ext w w5) := by rw [← hw5]; exact X3.out.trans (Ext.drewN w3 nq)
        have HM5 : Hid (Arr w5 benc 2 B m) := by rw [← hw5]; exact HM3.out
        rw [hw5]
        clear hw5 X3 HM3
        have ht1 : ¬ 1000 * (q' : Int) < p * (l.length : Int) := by omega
        by_cases hz : 0 < (p' : Int)
        · have hz1 : ¬ p * (l.length : Int) ≤ 1000 * (p' : Int) := by have := hb2 (by omega); omega
          clear hb2
          go_wp2_with fail
          have hc := quantile_any B d m 1000 w5 (by omega) HM5.out
          rw [HR2.out, show opt (some u) = .tuple #[.int .i64 u, .bool true] from rfl] at hc
          refine hc.mono ?_
          clear hc
          rintro e w6 ⟨rfl, b6⟩
          have HM6 := Lib.hid (HM5.out.ext b6)
          have X6 := Lib.hid (X5.out.trans b6)
          clear b6
          go_wp2_with fail
          have hc := quantile_any B d m more w6 (by omega) HM6.out
          rw [HQ3.out] at hc
          refine hc.mono ?_
          clear hc
          rintro e w7 ⟨rfl, b7⟩
          have X7 := Lib.hid (X6.out.trans b7)
          clear b7 ht1 hz1 hz hb1 hpl
          by_cases hmA : more < p
          · clear HV3
            go_wp2_with (first
              | (go_at_call 13; refine (HI.out _).mono ?_; rintro e w8 ⟨rfl, rfl⟩)
              | (go_at_call 15; refine (HL.out _).mono ?_; rintro e w8 ⟨rfl, rfl⟩))
            go_ret
            exact ⟨rfl, X7.out⟩
          · by_cases hmB : 1000 < more
            · clear HV3
              go_wp2_with (first
                | (go_at_call 13; refine (HI.out _).mono ?_; rintro e w8 ⟨rfl, rfl⟩)
                | (go_at_call 15; refine (HL.out _).mono ?_; rintro e w8 ⟨rfl, rfl⟩))
              go_ret
              exact ⟨rfl, X7.out⟩
            · obtain ⟨rfl, hva⟩ := HV3.out (by omega) (by omega)
              clear HV3
              go_wp2_with (first
                | (go_at_call 13; refine (HI.out _).mono ?_; rintro e w8 ⟨rfl, rfl⟩)
                | (go_at_call 15; refine (HL.out _).mono ?_; rintro e w8 ⟨rfl, rfl⟩))
              go_ret
              exact ⟨rfl, X7.out⟩
        · have hz' : ¬ 0 < (p' : Int) := hz
          clear hb2 hz
          go_wp2_with fail
          have hc := quantile_any B d m 1000 w5 (by omega) HM5.out
          rw [HR2.out, show opt (some u) = .tuple #[.int .i64 u, .bool true] from rfl] at hc
          refine hc.mono ?_
          clear hc
          rintro e w6 ⟨rfl, b6⟩
          have HM6 := Lib.hid (HM5.out.ext b6)
          have X6 := Lib.hid (X5.out.trans b6)
          clear b6
          go_wp2_with fail
          have hc := quantile_any B d m more w6 (by omega) HM6.out
          rw [HQ3.out] at hc
          refine hc.mono ?_
          clear hc
          rintro e w7 ⟨rfl, b7⟩
          have X7 := Lib.hid (X6.out.trans b7)
          clear b7 ht1 hz' hb1 hpl
          by_cases hmA : more < p
          · clear HV3
            go_wp2_with (first
              | (go_at_call 13; refine (HI.out _).mono ?_; rintro e w8 ⟨rfl, rfl⟩)
              | (go_at_call 15; refine (HL.out _).mono ?_; rintro e w8 ⟨rfl, rfl⟩))
            go_ret
            exact ⟨rfl, X7.out⟩
          · by_cases hmB : 1000 < more
            · clear HV3
              go_wp2_with (first
                | (go_at_call 13; refine (HI.out _).mono ?_; rintro e w8 ⟨rfl, rfl⟩)
                | (go_at_call 15; refine (HL.out _).mono ?_; rintro e w8 ⟨rfl, rfl⟩))
              go_ret
              exact ⟨rfl, X7.out⟩
            · obtain ⟨rfl, hva⟩ := HV3.out (by omega) (by omega)
              clear HV3
              go_wp2_with (first
                | (go_at_call 13; refine (HI.out _).mono ?_; rintro e w8 ⟨rfl, rfl⟩)
                | (go_at_call 15; refine (HL.out _).mono ?_; rintro e w8 ⟨rfl, rfl⟩))
              go_ret
              exact ⟨rfl, X7.out⟩
end Go.Proofs.Ythppcgafanognaa
