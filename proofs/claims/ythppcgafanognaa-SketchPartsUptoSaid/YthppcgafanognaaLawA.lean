/-
  The walks over the laws on integers and on ranks: SketchMatchesBuckets, SketchMatchesRanks, SketchRepresentatives.
-/
import Derived.Test.YthppcgafanognaaExample
namespace Go.Proofs.Ythppcgafanognaa
open Go.RowKit

set_option maxHeartbeats 1000000 in
theorem sketchMatchesBuckets_walk (w : World) (n : Int) (hn : I64 n) (i : Int) (_hi : I64 i) :
    Calls Try.prog 3 #[.int .i64 n, .int .i64 i] w fun e w' => e = .returned (.bool true) ∧ Below w.heap.size w w' := by
  obtain ⟨h0, h1⟩ := hn
  go_enter Try.func3, Try.ntmps3
  go_wp2_with (first
    | (go_at_call 12; refine (example_any _).mono ?_; rintro e w1 ⟨rfl, hb⟩)
    | (go_at_call 13; refine (Index_any len64 n _ h0 h1).mono ?_; rintro e w2 ⟨rfl, rfl⟩)
    | (go_at_call 14; refine (refIndex_any n _ h0 h1).mono ?_; rintro e w2 ⟨rfl, rfl⟩)
    | (go_at_call 15; refine (Low_any i _).mono ?_; rintro e w2 ⟨rfl, rfl⟩)
    | (go_at_call 16; refine (refLow_any i _).mono ?_; rintro e w2 ⟨rfl, rfl⟩))
  go_ret
  exact ⟨rfl, hb⟩

set_option maxHeartbeats 1000000 in
theorem sketchMatchesRanks_walk (w : World) (A : Option Addr) (c : Nat) (l : Bks) (ha : Arr w benc 2 A l) (_hf : WfB l) (hl : l.length ≤ 17592186044416) (r : Int) (_hr : I64 r) (p : Int) (_hp : I64 p) :
    Calls Try.prog 4 #[.slice A l.length c, .int .i64 r, .int .i64 p] w fun e w' => e = .returned (.bool true) ∧ Below w.heap.size w w' := by
  have HA := Lib.hid ha
  obtain ⟨v1, b1, e1⟩ := opt_ret (rank l r)
  obtain ⟨v2, b2, e2⟩ := opt_ret (quantile l p)
  have HR := Lib.hid (fun w' (hb : Below w.heap.size w w') => rank_any A c l r w' (by omega) (ha.below hb))
  have HR' := Lib.hid (fun w' (hb : Below w.heap.size w w') => refRank_any A c l r w' (by omega) (ha.below hb))
  have HQ := Lib.hid (fun w' (hb : Below w.heap.size w w') => quantile_any A c l p w' (by omega) (ha.below hb))
  have HQ' := Lib.hid (fun w' (hb : Below w.heap.size w w') => refQuantile_any A c l p w' (by omega) (ha.below hb))
  rw [e1] at HR HR'
  rw [e2] at HQ HQ'
  clear ha e1 e2
  go_enter Try.func4, Try.ntmps4
  go_wp2_with fail
  refine (example_any _).mono ?_
  rintro e w1 ⟨rfl, hb1⟩
  have HB1 := Lib.hid hb1
  clear hb1
  go_wp2_with fail
  refine (valid_any A c l w1 (by omega) (HA.out.below HB1.out)).mono ?_
  rintro e w2 ⟨v, n, rfl, -, rfl⟩
  have HB2 := Lib.hid (below_drewN HB1.out n)
  clear HB1
  cases v with
  | false =>
    go_wp2_with fail
    go_ret
    exact ⟨rfl, HB2.out⟩
  | true =>
    go_wp2_with fail
    refine (HR.out _ HB2.out).mono ?_
    rintro e w3 ⟨rfl, hb3⟩
    have HB3 := Lib.hid (HB2.out.trans (hb3.mono HB2.out.size))
    clear hb3
    go_wp2_with fail
    refine (HR'.out _ HB3.out).mono ?_
    rintro e w4 ⟨rfl, rfl⟩
    go_wp2_with fail
    refine (HQ.out _ HB3.out).mono ?_
    rintro e w5 ⟨rfl, hb5⟩
    have HB5 := Lib.hid (HB3.out.trans (hb5.mono HB3.out.size))
    clear hb5
    go_wp2_with fail
    refine (HQ'.out _ HB5.out).mono ?_
    rintro e w6 ⟨rfl, rfl⟩
    go_wp2_with fail
    go_ret
    exact ⟨rfl, HB5.out⟩

theorem low_idx (i : Int) (h0 : -1888 ≤ i) (h1 : i ≤ 1887) : idx (low i) = i := by
  have e : low i = if i < 0 then -(lowN (-i).toNat : Int) else lowN i.toNat := by unfold low; rw [if_neg (by omega)]
  rw [e]
  split
  · rename_i hn
    obtain ⟨a, b⟩ := bk_low (-i).toNat (by omega)
    have hpos : 0 < lowN (-i).toNat := by
      have := lowN_lt 0 (-i).toNat (by omega) (by omega); omega
    unfold idx
    rw [if_pos (by omega), Int.neg_neg, Int.toNat_natCast, b]; omega
  · rename_i hn
    obtain ⟨a, b⟩ := bk_low i.toNat (by omega)
    unfold idx
    rw [if_neg (by omega), Int.toNat_natCast, b]; omega

theorem idx_neg (n : Int) (h : n ≠ 0) : idx (-n) = -idx n := by
  unfold idx
  by_cases hn : n < 0
  · rw [if_neg (by omega), if_pos hn]; omega
  · rw [if_pos (by omega), if_neg hn, Int.neg_neg]
theorem low_pos_eq (i : Int) (h0 : 0 ≤ i) (h1 : i ≤ 1887) : low i = (lowN i.toNat : Int) := by unfold low; rw [if_neg (by omega), if_neg (by omega)]
theorem low_lt (i j : Int) (h0 : -1888 ≤ i) (h1 : j ≤ 1887) (hij : i < j) : low i < low j := by
  have e : ∀ i : Int, -1888 ≤ i → i ≤ 1887 → low i = if i < 0 then -(lowN (-i).toNat : Int) else lowN i.toNat := fun i h0 h1 => by unfold low; rw [if_neg (by omega)]
  rw [e i h0 (by omega), e j (by omega) h1]
  by_cases hi : i < 0
  · rw [if_pos hi]
    by_cases hj : j < 0
    · rw [if_pos hj]
      have := lowN_lt (-j).toNat (-i).toNat (by omega) (by omega); omega
    · rw [if_neg hj]
      have := lowN_lt 0 (-i).toNat (by omega) (by omega); omega
  · rw [if_neg hi, if_neg (by omega)]
    have := lowN_lt i.toNat j.toNat (by omega) (by omega); omega
/-- the number before the next representative is in the bucket -/
theorem before_next (i : Int) (h0 : 0 < i) (h1 : i < 1887) : idx (low (i + 1) - 1) = i ∧ 0 < low (i + 1) - 1 := by
  have hl := low_lt i (i + 1) (by omega) (by omega) (by omega)
  have hl0 := low_lt 0 i (by omega) (by omega) h0
  rw [show low 0 = 0 by decide +kernel] at hl0
  have e := low_pos_eq (i + 1) (by omega) (by omega)
  have e0 := low_pos_eq i (by omega) (by omega)
  have hr := low_range (i + 1)
  have hi := low_idx i (by omega) (by omega)
  have hi1 := low_idx (i + 1) (by omega) (by omega)
  refine ⟨?_, by omega⟩
  unfold idx at *
  rw [if_neg (by omega)] at hi hi1 ⊢
  have m1 := bk_mono (low i).toNat (low (i + 1) - 1).toNat (by omega) (by omega)
  have m2 := bk_mono (low (i + 1) - 1).toNat (low (i + 1)).toNat (by omega) (by omega)
  have hne : bk (low (i + 1) - 1).toNat ≠ bk (low (i + 1)).toNat := fun hc => by
    have a := low_bk (low (i + 1) - 1).toNat (by omega)
    rw [hc] at a
    have b : lowN (bk (low (i + 1)).toNat) = (low (i + 1)).toNat := by
      have : bk (low (i + 1)).toNat = (i + 1).toNat := by omega
      rw [this, e]; omega
    rw [b] at a
    have c := Nat.div_mul_le_self (low (i + 1) - 1).toNat (2 ^ sh (low (i + 1) - 1).toNat)
    omega
  omega

set_option maxHeartbeats 2000000 in
theorem sketchRepresentatives_walk (w : World) (i : Int) (hi : I64 i) :
    Calls Try.prog 5 #[.int .i64 i] w fun e w' => e = .returned (.bool true) ∧ Below w.heap.size w w' := by
  obtain ⟨hi0, hi1⟩ := hi
  by_cases hout : i < -1888 ∨ 1887 < i
  · have HL := Lib.hid (show low i = 0 by unfold low; rw [if_pos hout])
    have HLow := Lib.hid (fun w => HL.out ▸ Low_any i w)
    by_cases h1 : i < -1888
    · clear hout
      go_enter Try.func5, Try.ntmps5
      go_wp2_with (first
        | (go_at_call 12; refine (example_any _).mono ?_; rintro e w1 ⟨rfl, hb⟩)
        | (go_at_call 15; refine (HLow.out _).mono ?_; rintro e w2 ⟨rfl, rfl⟩))
      go_ret
      exact ⟨rfl, hb⟩
    · have h2 : 1887 < i := by omega
      clear hout
      go_enter Try.func5, Try.ntmps5
      go_wp2_with (first
        | (go_at_call 12; refine (example_any _).mono ?_; rintro e w1 ⟨rfl, hb⟩)
        | (go_at_call 15; refine (HLow.out _).mono ?_; rintro e w2 ⟨rfl, rfl⟩))
      go_ret
      exact ⟨rfl, hb⟩
  · have h1 : ¬ i < -1888 := by omega
    have h2 : ¬ 1887 < i := by omega
    have hr := low_range i
    have HI := Lib.hid (fun w => index_at (low i) i (low_idx i (by omega) (by omega)) hr.1 hr.2 w)
    have HLo := Lib.hid (fun w => Low_any i w)
    obtain ⟨a, ha⟩ : ∃ a, low i = a := ⟨_, rfl⟩
    rw [ha] at HI HLo hr
    by_cases h3 : i < 1887
    · have hlt := low_lt i (i + 1) (by omega) (by omega) (by omega)
      have hr1 := low_range (i + 1)
      have HLo1 := Lib.hid (fun w => Low_any (i + 1) w)
      by_cases h4 : i ≤ 0
      · obtain ⟨b, hb⟩ : ∃ b, low (i + 1) = b := ⟨_, rfl⟩
        rw [hb] at HLo1 hr1 hlt
        rw [ha] at hlt
        clear hb ha hout
        have hne : ¬ b ≤ a := by omega
        have hii : (i != i) = false := by simp
        go_enter Try.func5, Try.ntmps5
        go_wp2_with (first
          | (go_at_call 12; refine (example_any _).mono ?_; rintro e w1 ⟨rfl, hbl⟩)
          | (go_at_call 15; ((with_reducible refine (HLo.out _).mono ?_); rintro e w2 ⟨rfl, rfl⟩))
          | (go_at_call 15; ((with_reducible refine (HLo1.out _).mono ?_); rintro e w2 ⟨rfl, rfl⟩))
          | (go_at_call 13; ((with_reducible refine (HI.out _).mono ?_); rintro e w2 ⟨rfl, rfl⟩)))
        go_ret
        exact ⟨rfl, hbl⟩
      · obtain ⟨hb1, hb2⟩ := before_next i (by omega) h3
        have hb3 : idx (1 - low (i + 1)) = -i := by
          rw [show 1 - low (i + 1) = -(low (i + 1) - 1) by omega, idx_neg _ (by omega), hb1]
        have HI1 := Lib.hid (fun w => index_at (low (i + 1) - 1) i hb1 (by omega) (by omega) w)
        have HI2 := Lib.hid (fun w => index_at (1 - low (i + 1)) (-i) hb3 (by omega) (by omega) w)
        obtain ⟨b, hb⟩ : ∃ b, low (i + 1) = b := ⟨_, rfl⟩
        rw [hb] at HLo1 hr1 hlt HI1 HI2 hb2
        rw [ha] at hlt
        clear hb ha hout hb1 hb3
        have hne : ¬ b ≤ a := by omega
        have hii : (i != i) = false := by simp
        have hie : (i == 1887) = false := by rw [beq_eq_false_iff_ne]; omega
        go_enter Try.func5, Try.ntmps5
        go_wp2_with (first
          | (go_at_call 12; refine (example_any _).mono ?_; rintro e w1 ⟨rfl, hbl⟩)
          | (go_at_call 15; ((with_reducible refine (HLo.out _).mono ?_); rintro e w2 ⟨rfl, rfl⟩))
          | (go_at_call 15; ((with_reducible refine (HLo1.out _).mono ?_); rintro e w2 ⟨rfl, rfl⟩))
          | (go_at_call 13; ((with_reducible refine (HI.out _).mono ?_); rintro e w2 ⟨rfl, rfl⟩))
          | (go_at_call 13; ((with_reducible refine (HI1.out _).mono ?_); rintro e w2 ⟨rfl, rfl⟩))
          | (go_at_call 13; ((with_reducible refine (HI2.out _).mono ?_); rintro e w2 ⟨rfl, rfl⟩)))
        go_ret
        exact ⟨rfl, hbl⟩
    · obtain rfl : i = 1887 := by omega
      clear ha hout
      go_enter Try.func5, Try.ntmps5
      go_wp2_with (first
        | (go_at_call 12; refine (example_any _).mono ?_; rintro e w1 ⟨rfl, hbl⟩)
        | (go_at_call 15; ((with_reducible refine (HLo.out _).mono ?_); rintro e w2 ⟨rfl, rfl⟩))
        | (go_at_call 13; ((with_reducible refine (HI.out _).mono ?_); rintro e w2 ⟨rfl, rfl⟩)))
      go_ret
      exact ⟨rfl, hbl⟩
end Go.Proofs.Ythppcgafanognaa
