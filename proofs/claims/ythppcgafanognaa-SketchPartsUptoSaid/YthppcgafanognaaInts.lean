/-
  The walks over the functions on integers: bucket, Index, Low, low and their references.
-/
import Derived.Test.YthppcgafanognaaRows
import Derived.Test.YthppcgafanognaaPlain
import Derived.Test.YthppcgafanognaaWords
import Derived.Test.YthppcgafanognaaShelf
namespace Go.Proofs.Ythppcgafanognaa
open Go.RowKit




def Len64 : Prop := ∀ (x : Int) (w : World), 0 ≤ x → x ≤ 18446744073709551615 → Calls Try.prog 44 #[.int .u64 x] w fun e w' => e = .returned (.int .i64 (Lib.bitLen x.toNat)) ∧ w' = w

theorem len64 : Len64 := fun x w h0 h1 => Try.bits_Len64 x w h0 h1

theorem bk_close (n : Nat) (h : n < 2 ^ 64) (h6 : 6 ≤ Lib.bitLen n) : wrap64 (32 * (((Lib.bitLen n : Nat) : Int) - 6) + wrap64 (((n : Nat) : Int) / 2 ^ (Lib.bitLen n - 6))) = bk n := by
  have b2 := sh_le n h
  have b3 := sh_div n h
  have e2 : ((n : Int) / 2 ^ (Lib.bitLen n - 6)) = ((n / 2 ^ sh n : Nat) : Int) := by simp [sh]
  have e3 : ((Lib.bitLen n : Nat) : Int) - 6 = (sh n : Nat) := by unfold sh; omega
  rw [e2, e3]
  unfold bk
  generalize n / 2 ^ sh n = q at *
  rw [w64 (n := (q : Int)) (by omega) (by omega), w64 (by omega) (by omega)]
  omega

set_option maxHeartbeats 400000 in
theorem bucket_any (hl : Len64) (n : Nat) (w : World) (h : n < 2^64) :
    Calls Try.prog 35 #[.int .u64 n] w fun e w' => e = .returned (.int .i64 (bk n)) ∧ w = w' := by
  have H := Lib.hid hl
  clear hl
  have b1 := Lib.bitLen_le n 64 (by omega) h
  by_cases h6 : 6 ≤ Lib.bitLen n
  · have hc := Lib.hid (bk_close n h h6)
    have h0 : (0 : Int) ≤ (Lib.bitLen n : Nat) - 6 := by omega
    have hm : max (((Lib.bitLen n : Nat) : Int) - 6) 0 = ((Lib.bitLen n : Nat) : Int) - 6 := by omega
    go_enter Try.func35, Try.ntmps35
    go_wp2_with (go_at_call 44; refine (H.out _ _ (by omega) (by omega)).mono ?_; rintro e w' ⟨rfl, rfl⟩)
    go_ret
    exact ⟨ret_int hc.out, rfl⟩
  · have hs : n < 64 := by
      have := bitLen_lt n h
      have : 2 ^ Lib.bitLen n ≤ 2 ^ 6 := Nat.pow_le_pow_right (by omega) (by omega)
      omega
    have hc := Lib.hid (bk_small n hs)
    have hm : max (((Lib.bitLen n : Nat) : Int) - 6) 0 = 0 := by omega
    go_enter Try.func35, Try.ntmps35
    go_wp2_with (go_at_call 44; refine (H.out _ _ (by omega) (by omega)).mono ?_; rintro e w' ⟨rfl, rfl⟩)
    go_ret
    exact ⟨ret_int (by rw [hc.out]), rfl⟩

theorem low_close (i : Nat) (h : i ≤ 1919) (h0 : (0 : Int) ≤ ↑i / 32 - 1) : IntKind.u64.wrap (((i : Int) - 32 * (↑i / 32 - 1)) * 2 ^ (((i : Int) / 32).toNat - 1)) = lowN i := by
  have b := (bk_low i h).1
  have e1 : ((i : Int) / 32).toNat - 1 = i / 32 - 1 := by omega
  have e2 : ((i : Int) - 32 * (↑i / 32 - 1)) = ((i - 32 * (i / 32 - 1) : Nat) : Int) := by omega
  have e3 : ((i - 32 * (i / 32 - 1) : Nat) : Int) * 2 ^ (i / 32 - 1) = (lowN i : Nat) := by unfold lowN; simp
  rw [e1, e2, e3, u64w (by omega) (by omega)]

set_option maxHeartbeats 400000 in
theorem low_any (i : Nat) (w : World) (h : i ≤ 1919) :
    Calls Try.prog 37 #[.int .i64 i] w fun e w' => e = .returned (.int .u64 (lowN i)) ∧ w = w' := by
  by_cases h32 : (0 : Int) ≤ ↑i / 32 - 1
  · have hc := Lib.hid (low_close i h h32)
    have hm : max ((i : Int) / 32 - 1) 0 = (i : Int) / 32 - 1 := by omega
    go_enter Try.func37, Try.ntmps37
    go_wp2
    go_ret
    exact ⟨ret_int hc.out, rfl⟩
  · have hc := Lib.hid (lowN_small i (by omega))
    have hm : max ((i : Int) / 32 - 1) 0 = 0 := by omega
    go_enter Try.func37, Try.ntmps37
    go_wp2
    go_ret
    exact ⟨ret_int (by rw [hc.out]), rfl⟩


theorem bucket_int (hl : Len64) (n : Int) (w : World) (h0 : 0 ≤ n) (h : n < 18446744073709551616) :
    Calls Try.prog 35 #[.int .u64 n] w fun e w' => e = .returned (.int .i64 (bk n.toNat)) ∧ w = w' := by
  obtain ⟨m, rfl⟩ := Int.eq_ofNat_of_zero_le h0
  exact bucket_any hl m w (by omega)
theorem low_int (i : Int) (w : World) (h0 : 0 ≤ i) (h : i ≤ 1919) :
    Calls Try.prog 37 #[.int .i64 i] w fun e w' => e = .returned (.int .u64 (lowN i.toNat)) ∧ w = w' := by
  obtain ⟨m, rfl⟩ := Int.eq_ofNat_of_zero_le h0
  exact low_any m w (by omega)

theorem neg_wrap (n : Int) (hn : n < 0) (h0 : -9223372036854775808 ≤ n) : IntKind.u64.wrap (-IntKind.u64.wrap n) = -n := by
  simp only [IntKind.wrap_u64]; omega

set_option maxHeartbeats 400000 in
theorem Index_any (hl : Len64) (n : Int) (w : World) (h0 : -9223372036854775808 ≤ n) (h1 : n ≤ 9223372036854775807) :
    Calls Try.prog 13 #[.int .i64 n] w fun e w' => e = .returned (.int .i64 (idx n)) ∧ w = w' := by
  have HB := Lib.hid (bucket_int hl)
  by_cases hn : n < 0
  · have hw := Lib.hid (neg_wrap n hn h0)
    have hb := bk_le (-n).toNat (by omega)
    go_enter Try.func13, Try.ntmps13
    go_wp2_with fail
    rw [hw.out]
    refine (HB.out _ _ (by omega) (by omega)).mono ?_
    rintro e w' ⟨rfl, rfl⟩
    go_wp2_with fail
    go_ret
    exact ⟨ret_int (by unfold idx; rw [if_pos hn]), rfl⟩
  · go_enter Try.func13, Try.ntmps13
    go_wp2_with fail
    refine (HB.out _ _ (by omega) (by omega)).mono ?_
    rintro e w' ⟨rfl, rfl⟩
    go_wp2_with fail
    go_ret
    exact ⟨ret_int (by unfold idx; rw [if_neg (by omega)]), rfl⟩

theorem len_add (n k q : Nat) (h : q < 2 ^ 64) (hk : 0 < q) (hh : Lib.bitLen n = k + Lib.bitLen q) : Lib.bitLen n = (k + 1) + Lib.bitLen (q / 2) := by
  rw [hh, Lib.bitLen_half q (by omega) h]; omega

set_option maxHeartbeats 400000 in
theorem positive_any (n : Nat) (w : World) (h : n < 2 ^ 64) :
    Calls Try.prog 36 #[.int .u64 n] w fun e w' => e = .returned (.int .i64 (bk n)) ∧ w = w' := by
  have b1 := Lib.bitLen_le n 64 (by omega) h
  go_enter Try.func36, Try.ntmps36
  go_wp2
  go_loop [3, 4] (fun d k => ∃ j q : Nat, d = .int .i64 j ∧ k = .int .u64 q ∧ q < 2 ^ 64 ∧ j ≤ 64 ∧ Hid (Lib.bitLen n = j + Lib.bitLen q)) (fun d _ => 64 - (intOf d).toNat)
  case atStart => exact ⟨0, n, rfl, rfl, h, by omega, by show _ = _; simp⟩
  case round =>
    obtain ⟨j, q, rfl, rfl, hq, hle, HJ⟩ := hrel
    by_cases hz : 0 < q
    · have HL := Lib.hid (len_add n j q hq hz HJ.out)
      have hlt : j < 64 := by have := HJ.out; have := HL.out; omega
      go_wp2
      go_round
      case rel => exact ⟨j + 1, q / 2, by go_num, by go_num, by omega, by omega, HL⟩
      case measure => simp [intOf]; omega
    · have hq0 : q = 0 := by omega
      have hj : Lib.bitLen n = j := by have := HJ.out; rw [hq0, bitLen_zero] at this; omega
      have HJ2 := Lib.hid hj
      subst hq0
      clear hj
      by_cases h6 : j < 6
      · have hs : n < 64 := by
          have := bitLen_lt n h
          rw [HJ2.out] at this
          have : 2 ^ j ≤ 2 ^ 6 := Nat.pow_le_pow_right (by omega) (by omega)
          omega
        have hc := Lib.hid (bk_small n hs)
        go_wp2
        go_ret
        exact ⟨ret_int (by rw [hc.out]), rfl⟩
      · go_wp2
        go_loop [0, 6] (fun m i => ∃ k q : Nat, i = .int .i64 k ∧ m = .int .u64 q ∧ q < 2 ^ 64 ∧ k ≤ j - 6 ∧ Hid (q = n / 2 ^ k)) (fun _ i => j - (intOf i).toNat)
        case atStart => exact ⟨0, n, rfl, rfl, h, by omega, by show _ = _; simp⟩
        case round =>
          obtain ⟨k, q, rfl, rfl, hq, hk, HQ⟩ := hrel
          by_cases hlt : k < j - 6
          · have hlt' : (k : Int) < (j : Int) - 6 := by omega
            go_wp2
            go_round
            case rel => exact ⟨k + 1, q / 2, by go_num, by go_num, by omega, by omega, by show _ = _; rw [HQ.out, Nat.div_div_eq_div_mul, Nat.pow_succ]⟩
            case measure => simp [intOf]; omega
          · have hlt' : ¬ (k : Int) < (j : Int) - 6 := by omega
            have hkj : k = sh n := by unfold sh; rw [HJ2.out]; omega
            have hv : bk n = 32 * (j - 6) + q := by unfold bk; rw [← hkj, ← HQ.out]; omega
            have hb : q < 64 := by rw [HQ.out, hkj]; exact sh_div n h
            have HV := Lib.hid hv
            clear hkj hv
            go_wp2
            go_ret
            exact ⟨ret_int (by rw [HV.out]; omega), rfl⟩

theorem positive_int (n : Int) (w : World) (h0 : 0 ≤ n) (h : n < 18446744073709551616) :
    Calls Try.prog 36 #[.int .u64 n] w fun e w' => e = .returned (.int .i64 (bk n.toNat)) ∧ w = w' := by
  obtain ⟨m, rfl⟩ := Int.eq_ofNat_of_zero_le h0
  exact positive_any m w (by omega)

set_option maxHeartbeats 400000 in
theorem refIndex_any (n : Int) (w : World) (h0 : -9223372036854775808 ≤ n) (h1 : n ≤ 9223372036854775807) :
    Calls Try.prog 14 #[.int .i64 n] w fun e w' => e = .returned (.int .i64 (idx n)) ∧ w = w' := by
  by_cases hn : n < 0
  · have hb := bk_le (-n).toNat (by omega)
    have hb2 := bk_le (-(n+1) + 1).toNat (by omega)
    go_enter Try.func14, Try.ntmps14
    go_wp2_with fail
    refine (positive_int _ _ (by omega) (by omega)).mono ?_
    rintro e w' ⟨rfl, rfl⟩
    go_wp2_with fail
    go_ret
    exact ⟨ret_int (by unfold idx; rw [if_pos hn, show (-(n+1) + 1) = -n by omega]), rfl⟩
  · go_enter Try.func14, Try.ntmps14
    go_wp2_with fail
    refine (positive_int _ _ (by omega) (by omega)).mono ?_
    rintro e w' ⟨rfl, rfl⟩
    go_wp2_with fail
    go_ret
    exact ⟨ret_int (by unfold idx; rw [if_neg (by omega)]), rfl⟩

set_option maxHeartbeats 400000 in
theorem size_any (i : Nat) (w : World) (h : i ≤ 1919) :
    Calls Try.prog 38 #[.int .i64 i] w fun e w' => e = .returned (.int .i64 (wrap64 (lowN i))) ∧ w = w' := by
  by_cases h32 : i < 32
  · have hc := Lib.hid (lowN_small i (by omega))
    go_enter Try.func38, Try.ntmps38
    go_wp2
    go_ret
    exact ⟨ret_int (by rw [hc.out, w64 (by omega) (by omega)]), rfl⟩
  · go_enter Try.func38, Try.ntmps38
    go_wp2
    go_loop [4, 5] (fun m k => ∃ j q : Nat, k = .int .i64 j ∧ m = .int .u64 q ∧ q < 2 ^ 64 ∧ j ≤ i / 32 - 1 ∧ Hid (q = (i - 32 * (i / 32 - 1)) * 2 ^ j)) (fun _ k => i - (intOf k).toNat)
    case atStart => exact ⟨0, i - 32 * (i / 32 - 1), rfl, by go_num, by omega, by omega, by show _ = _; simp⟩
    case round =>
      obtain ⟨j, q, rfl, rfl, hq, hj, HQ⟩ := hrel
      by_cases hlt : j < i / 32 - 1
      · have hlt' : (j : Int) < ((i : Int) - 32) / 32 := by omega
        have hq2 : 2 * q < 2 ^ 64 := by
          have hb := (bk_low i h).1
          have hp : 2 ^ (j + 1) ≤ 2 ^ (i / 32 - 1) := Nat.pow_le_pow_right (by omega) (by omega)
          have := Nat.mul_le_mul_left (i - 32 * (i / 32 - 1)) hp
          have hqe := HQ.out
          rw [Nat.pow_succ, ← Nat.mul_assoc] at this
          rw [← hqe] at this
          unfold lowN at hb; omega
        go_wp2
        go_round
        case rel => exact ⟨j + 1, 2 * q, by go_num, by go_num, by omega, by omega, by show _ = _; rw [HQ.out, Nat.pow_succ, Nat.mul_comm 2, Nat.mul_assoc]⟩
        case measure => simp [intOf]; omega
      · have hlt' : ¬ (j : Int) < ((i : Int) - 32) / 32 := by omega
        have hv : q = lowN i := by
          have : j = i / 32 - 1 := by omega
          rw [HQ.out, this]; rfl
        have HV := Lib.hid hv
        clear hv
        go_wp2
        go_ret
        exact ⟨ret_int (by rw [HV.out]), rfl⟩
theorem size_int (i : Int) (w : World) (h0 : 0 ≤ i) (h : i ≤ 1919) :
    Calls Try.prog 38 #[.int .i64 i] w fun e w' => e = .returned (.int .i64 (wrap64 (lowN i.toNat))) ∧ w = w' := by
  obtain ⟨m, rfl⟩ := Int.eq_ofNat_of_zero_le h0
  exact size_any m w (by omega)

theorem low_neg (i : Int) (hi : i < 0) (h0 : -1888 ≤ i) : wrap64 (-wrap64 (lowN (-i).toNat)) = low i := by
  have e : low i = -(lowN (-i).toNat : Int) := by unfold low; rw [if_neg (by omega), if_pos hi]
  have hr := low_range i
  rw [e] at hr ⊢
  generalize lowN (-i).toNat = q at *
  unfold wrap64; omega
theorem low_pos (i : Int) (hi : ¬ i < 0) (h0 : i ≤ 1887) : wrap64 (lowN i.toNat) = low i := by
  have e : low i = (lowN i.toNat : Int) := by unfold low; rw [if_neg (by omega), if_neg hi]
  have hr := low_range i
  rw [e] at hr ⊢
  rw [w64 (by omega) (by omega)]

set_option maxHeartbeats 400000 in
theorem Low_any (i : Int) (w : World) :
    Calls Try.prog 15 #[.int .i64 i] w fun e w' => e = .returned (.int .i64 (low i)) ∧ w = w' := by
  by_cases h0 : i < -1888
  · have e := Lib.hid (show low i = 0 by unfold low; rw [if_pos (by omega)])
    go_enter Try.func15, Try.ntmps15
    go_wp2
    go_ret
    exact ⟨ret_int (by rw [e.out]), rfl⟩
  by_cases h1 : 1887 < i
  · have e := Lib.hid (show low i = 0 by unfold low; rw [if_pos (by omega)])
    go_enter Try.func15, Try.ntmps15
    go_wp2
    go_ret
    exact ⟨ret_int (by rw [e.out]), rfl⟩
  by_cases hn : i < 0
  · have hc := Lib.hid (low_neg i hn (by omega))
    have hb := (bk_low (-i).toNat (by omega)).1
    go_enter Try.func15, Try.ntmps15
    go_wp2_with fail
    refine (low_int _ _ (by omega) (by omega)).mono ?_
    rintro e w' ⟨rfl, rfl⟩
    go_wp2_with fail
    go_ret
    exact ⟨ret_int hc.out, rfl⟩
  · have hc := Lib.hid (low_pos i hn (by omega))
    have hb := (bk_low i.toNat (by omega)).1
    go_enter Try.func15, Try.ntmps15
    go_wp2_with fail
    refine (low_int _ _ (by omega) (by omega)).mono ?_
    rintro e w' ⟨rfl, rfl⟩
    go_wp2_with fail
    go_ret
    exact ⟨ret_int hc.out, rfl⟩

set_option maxHeartbeats 400000 in
theorem refLow_any (i : Int) (w : World) :
    Calls Try.prog 16 #[.int .i64 i] w fun e w' => e = .returned (.int .i64 (low i)) ∧ w = w' := by
  by_cases h0 : i < -1888
  · have e := Lib.hid (show low i = 0 by unfold low; rw [if_pos (by omega)])
    go_enter Try.func16, Try.ntmps16
    go_wp2
    go_ret
    exact ⟨ret_int (by rw [e.out]), rfl⟩
  by_cases h1 : 1887 < i
  · have e := Lib.hid (show low i = 0 by unfold low; rw [if_pos (by omega)])
    go_enter Try.func16, Try.ntmps16
    go_wp2
    go_ret
    exact ⟨ret_int (by rw [e.out]), rfl⟩
  by_cases hn : i < 0
  · have hc := Lib.hid (low_neg i hn (by omega))
    go_enter Try.func16, Try.ntmps16
    go_wp2_with fail
    refine (size_int _ _ (by omega) (by omega)).mono ?_
    rintro e w' ⟨rfl, rfl⟩
    go_wp2_with fail
    go_ret
    exact ⟨ret_int hc.out, rfl⟩
  · have hc := Lib.hid (low_pos i hn (by omega))
    go_enter Try.func16, Try.ntmps16
    go_wp2_with fail
    refine (size_int _ _ (by omega) (by omega)).mono ?_
    rintro e w' ⟨rfl, rfl⟩
    go_wp2_with fail
    go_ret
    exact ⟨ret_int hc.out, rfl⟩
end Go.Proofs.Ythppcgafanognaa
