/-
  The walk over the law SketchRanks.
-/
import Derived.Test.YthppcgafanognaaQuant
namespace Go.Proofs.Ythppcgafanognaa
open Go.RowKit

theorem cLt_snoc {l : List Int} {k : Nat} {x i : Int} (h : l[k]? = some x) : cLt (l.take (k + 1)) i = cLt (l.take k) i + if idx x < i then 1 else 0 := by
  rw [take_snoc h]; simp [cLt, List.countP_append, List.countP_cons]
theorem cEq_snoc {l : List Int} {k : Nat} {x i : Int} (h : l[k]? = some x) : cEq (l.take (k + 1)) i = cEq (l.take k) i + if idx x = i then 1 else 0 := by
  rw [take_snoc h]; simp [cEq, List.countP_append, List.countP_cons]
theorem cLt_le (l : List Int) (i : Int) : cLt l i ≤ l.length := List.countP_le_length
theorem cEq_le (l : List Int) (i : Int) : cEq l i ≤ l.length := List.countP_le_length

set_option maxHeartbeats 4000000 in
theorem sketchRanks_walk (w : World) (A : Option Addr) (c : Nat) (l : List Int) (ha : Arr w ienc 1 A l) (hf : ∀ n ∈ l, I64 n) (hl : l.length ≤ 17592186044416) (r : Int) (hr : I64 r) :
    Calls Try.prog 6 #[.slice A l.length c, .int .i64 r] w fun e w' => e = .returned (.bool true) ∧ Below w.heap.size w w' := by
  have HA := Lib.hid ha
  have HF := Lib.hid hf
  obtain ⟨hr0, hr1⟩ := hr
  clear ha hf
  by_cases hout : r < 1 ∨ (l.length : Int) < r
  · go_enter Try.func6, Try.ntmps6
    go_wp2_with fail
    refine (example_any _).mono ?_
    rintro e w1 ⟨rfl, hb1⟩
    have X1 := Lib.hid (show Ext w w1 from hb1)
    clear hb1
    go_wp2_with fail
    refine (all_any A c l w1 (HA.out.ext X1.out) HF.out (by omega)).mono ?_
    rintro e w2 ⟨B, d, m, rfl, hm, sm, fm, km, tm, b2⟩
    have HR := Lib.hid (rank_none sm fm tm (by omega) hout)
    have hml := keys_length sm km
    have HM := Lib.hid hm
    have X2 := Lib.hid (X1.out.trans b2)
    clear hm sm fm km tm b2 X1
    go_wp2_with fail
    have hc := rank_any B d m r w2 (by omega) HM.out
    rw [HR.out, show opt none = .tuple #[.int .i64 0, .bool false] from rfl] at hc
    refine hc.mono ?_
    clear hc
    rintro e w3 ⟨rfl, b3⟩
    have X3 := Lib.hid (X2.out.trans b3)
    clear b3 X2
    by_cases h1 : r < 1
    · clear hout
      go_wp2_with fail
      go_ret
      exact ⟨rfl, X3.out⟩
    · have h2 : (l.length : Int) < r := by omega
      clear hout
      go_wp2_with fail
      go_ret
      exact ⟨rfl, X3.out⟩
  · have h1' : ¬ r < 1 := by omega
    have h2' : ¬ (l.length : Int) < r := by omega
    clear hout
    go_enter Try.func6, Try.ntmps6
    go_wp2_with fail
    refine (example_any _).mono ?_
    rintro e w1 ⟨rfl, hb1⟩
    have X1 := Lib.hid (show Ext w w1 from hb1)
    clear hb1
    go_wp2_with fail
    refine (all_any A c l w1 (HA.out.ext X1.out) HF.out (by omega)).mono ?_
    rintro e w2 ⟨B, d, m, rfl, hm, sm, fm, km, tm, b2⟩
    obtain ⟨i, hi0, hi1, hR, hlt, hle⟩ := rank_some sm fm km tm (by omega) (show 1 ≤ r by omega) (by omega)
    have hml := keys_length sm km
    have HR := Lib.hid hR
    have HM := Lib.hid hm
    have X2 := Lib.hid (X1.out.trans b2)
    clear hm sm fm km tm b2 X1 hR
    obtain ⟨v, hv⟩ : ∃ v, low i = v := ⟨_, rfl⟩
    rw [hv] at HR
    have HVl := Lib.hid hv
    clear hv
    go_wp2_with fail
    have hc := rank_any B d m r w2 (by omega) HM.out
    rw [HR.out, show opt (some v) = .tuple #[.int .i64 v, .bool true] from rfl] at hc
    refine hc.mono ?_
    clear hc
    rintro e w3 ⟨rfl, b3⟩
    have X3 := Lib.hid (X2.out.trans b3)
    clear b3 X2 HM HR
    go_wp2_with fail
    have c1 := cLt_le l i
    have c2 := cEq_le l i
    go_loop [9, 10, 11] (fun a b k => ∃ (j : Nat) (p q : Nat), j ≤ l.length ∧ k = .int .i64 j ∧ a = .int .i64 p ∧ b = .int .i64 q ∧ p ≤ j ∧ q ≤ j ∧ Hid (p = cLt (l.take j) i) ∧ Hid (q = cEq (l.take j) i)) (fun _ _ k => l.length - (intOf k).toNat)
    case atStart => exact ⟨0, 0, 0, Nat.zero_le _, rfl, rfl, rfl, Nat.le_refl _, Nat.le_refl _, rfl, rfl⟩
    case round =>
      obtain ⟨j, p, q, hj, rfl, rfl, rfl, hp, hq, HP, HQ⟩ := hrel
      by_cases hjl : j < l.length
      · obtain ⟨g, off, x, rfl, _, HX, c0⟩ := (HA.out.ext X3.out).int_ hjl
        obtain ⟨hx0, hx1⟩ := HF.out x (List.mem_of_getElem? HX.out)
        have hjr := idx_range x hx0 hx1
        have HI := Lib.hid (fun w => Index_any len64 x w hx0 hx1)
        have hsl := cLt_snoc (i := i) HX.out
        have hse := cEq_snoc (i := i) HX.out
        obtain ⟨t, htt⟩ : ∃ t, idx x = t := ⟨_, rfl⟩
        rw [htt] at hjr HI hsl hse
        obtain ⟨ha, hb⟩ := low_lt_iff hjr.1 hjr.2 hi0 hi1
        have HL := Lib.hid (fun w => Low_any t w)
        obtain ⟨y, hy⟩ : ∃ y, low t = y := ⟨_, rfl⟩
        rw [hy] at HL ha hb
        rw [HVl.out] at ha hb
        clear hy htt
        rcases Int.lt_trichotomy t i with h | h | h
        · have h1 : y < v := by omega
          have h2 : (y == v) = false := by rw [beq_eq_false_iff_ne]; omega
          rw [if_pos h] at hsl
          rw [if_neg (by omega)] at hse
          have HS := Lib.hid hsl
          have HE := Lib.hid hse
          clear hsl hse ha hb h hjr hx0 hx1 hi0 hi1 hlt hle c1 c2 hml hr0 hr1 h1' h2'
          go_wp2_with (first
            | (go_at_call 13; refine (HI.out _).mono ?_; rintro e w4 ⟨rfl, rfl⟩)
            | (go_at_call 15; refine (HL.out _).mono ?_; rintro e w4 ⟨rfl, rfl⟩))
          go_round
          case rel => exact ⟨j + 1, p + 1, q, by omega, by go_num, by go_num, rfl, by omega, by omega, by show _ = _; rw [HS.out, HP.out], by show _ = _; rw [HE.out, HQ.out]; rfl⟩
          case measure => simp [intOf]; omega
        · have h1 : ¬ y < v := by omega
          have h2 : (y == v) = true := by rw [beq_iff_eq]; omega
          rw [if_neg (by omega)] at hsl
          rw [if_pos h] at hse
          have HS := Lib.hid hsl
          have HE := Lib.hid hse
          clear hsl hse ha hb h hjr hx0 hx1 hi0 hi1 hlt hle c1 c2 hml hr0 hr1 h1' h2'
          go_wp2_with (first
            | (go_at_call 13; refine (HI.out _).mono ?_; rintro e w4 ⟨rfl, rfl⟩)
            | (go_at_call 15; refine (HL.out _).mono ?_; rintro e w4 ⟨rfl, rfl⟩))
          go_round
          case rel => exact ⟨j + 1, p, q + 1, by omega, by go_num, rfl, by go_num, by omega, by omega, by show _ = _; rw [HS.out, HP.out]; rfl, by show _ = _; rw [HE.out, HQ.out]⟩
          case measure => simp [intOf]; omega
        · have h1 : ¬ y < v := by omega
          have h2 : (y == v) = false := by rw [beq_eq_false_iff_ne]; omega
          rw [if_neg (by omega)] at hsl
          rw [if_neg (by omega)] at hse
          have HS := Lib.hid hsl
          have HE := Lib.hid hse
          clear hsl hse ha hb h hjr hx0 hx1 hi0 hi1 hlt hle c1 c2 hml hr0 hr1 h1' h2'
          go_wp2_with (first
            | (go_at_call 13; refine (HI.out _).mono ?_; rintro e w4 ⟨rfl, rfl⟩)
            | (go_at_call 15; refine (HL.out _).mono ?_; rintro e w4 ⟨rfl, rfl⟩))
          go_round
          case rel => exact ⟨j + 1, p, q, by omega, by go_num, rfl, rfl, by omega, by omega, by show _ = _; rw [HS.out, HP.out]; rfl, by show _ = _; rw [HE.out, HQ.out]; rfl⟩
          case measure => simp [intOf]; omega
      · have hp2 : p = cLt l i := by rw [HP.out, List.take_of_length_le (by omega)]
        have hq2 : q = cEq l i := by rw [HQ.out, List.take_of_length_le (by omega)]
        have e1 : (p : Int) < r := by omega
        have e2 : r ≤ (p : Int) + q := by omega
        clear HP HQ hp2 hq2 hlt hle c1 c2
        go_wp2
        go_ret
        exact ⟨rfl, X3.out⟩
end Go.Proofs.Ythppcgafanognaa
