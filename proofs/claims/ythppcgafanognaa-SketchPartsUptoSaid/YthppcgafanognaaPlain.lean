/-
  Plain mathematics of the sketch (no program): buckets, representatives.
-/
import Derived.Lib.BitFns
namespace Go.Proofs.Ythppcgafanognaa
open Lib (bitLen)

/-- the shift of a number -/
def sh (n : Nat) : Nat := bitLen n - 6
/-- the bucket of a natural number -/
def bk (n : Nat) : Nat := 32 * sh n + n / 2 ^ sh n
/-- the bucket of an integer -/
def idx (n : Int) : Int := if n < 0 then -(bk (-n).toNat : Int) else bk n.toNat
def lowN (i : Nat) : Nat := (i - 32 * (i / 32 - 1)) * 2 ^ (i / 32 - 1)
def low (i : Int) : Int := if i < -1888 ∨ 1887 < i then 0 else if i < 0 then -(lowN (-i).toNat : Int) else lowN i.toNat

theorem bitLen_zero : bitLen 0 = 0 := by decide
theorem bitLen_lt (n : Nat) (h : n < 2 ^ 64) : n < 2 ^ bitLen n := by
  induction n using Nat.strongRecOn with
  | _ n ih =>
    by_cases h0 : n = 0
    · subst h0; simp [bitLen_zero]
    · rw [Lib.bitLen_half n h0 h, Nat.add_comm 1, Nat.pow_succ]
      have := ih (n / 2) (by omega) (by omega)
      omega
theorem le_bitLen (n : Nat) (h0 : 0 < n) (h : n < 2 ^ 64) : 2 ^ (bitLen n - 1) ≤ n := by
  induction n using Nat.strongRecOn with
  | _ n ih =>
    rw [Lib.bitLen_half n (by omega) h]
    by_cases h1 : n = 1
    · subst h1; decide
    · have := ih (n / 2) (by omega) (by omega) (by omega)
      have e : 0 < bitLen (n / 2) := by
        rw [Lib.bitLen_half (n / 2) (by omega) (by omega)]; omega
      rw [show 1 + bitLen (n / 2) - 1 = (bitLen (n / 2) - 1) + 1 by omega, Nat.pow_succ]
      omega
theorem sh_le (n : Nat) (h : n < 2 ^ 64) : sh n ≤ 58 := by
  have := Lib.bitLen_le n 64 (by omega) h
  unfold sh; omega
/-- a number below 64 is its own bucket; another has a shift with 32 ≤ n / 2^s < 64 -/
theorem sh_small (n : Nat) (h : n < 64) : sh n = 0 := by
  have := Lib.bitLen_le n 6 (by omega) (by omega)
  unfold sh; omega
theorem sh_div (n : Nat) (h : n < 2 ^ 64) : n / 2 ^ sh n < 64 := by
  have h1 := bitLen_lt n h
  rw [Nat.div_lt_iff_lt_mul (Nat.two_pow_pos _)]
  unfold sh
  by_cases h6 : 6 ≤ bitLen n
  · have e : 64 * 2 ^ (bitLen n - 6) = 2 ^ bitLen n := by
      rw [show (64 : Nat) = 2 ^ 6 by rfl, ← Nat.pow_add]; congr 1; omega
    omega
  · have : 2 ^ bitLen n ≤ 2 ^ 6 := Nat.pow_le_pow_right (by omega) (by omega)
    rw [show bitLen n - 6 = 0 by omega]; omega
theorem sh_ge (n : Nat) (h : n < 2 ^ 64) (h32 : 32 ≤ n) : 32 ≤ n / 2 ^ sh n := by
  have h1 := le_bitLen n (by omega) h
  rw [Nat.le_div_iff_mul_le (Nat.two_pow_pos _)]
  unfold sh
  by_cases h6 : 6 ≤ bitLen n
  · have e : 32 * 2 ^ (bitLen n - 6) = 2 ^ (bitLen n - 1) := by
      rw [show (32 : Nat) = 2 ^ 5 by rfl, ← Nat.pow_add]; congr 1; omega
    omega
  · rw [show bitLen n - 6 = 0 by omega]; omega
theorem bk_le (n : Nat) (h : n < 2 ^ 64) : bk n ≤ 1919 := by
  have := sh_div n h; have := sh_le n h; unfold bk; omega
/-- what a quotient and a shift say of a bucket -/
theorem bk_char (n s : Nat) (h : n < 2 ^ 64) (h1 : 32 ≤ n / 2 ^ s) (h2 : n / 2 ^ s < 64) : sh n = s := by
  have h1' : 32 * 2 ^ s ≤ n := (Nat.le_div_iff_mul_le (Nat.two_pow_pos _)).1 h1
  have h2' : n < 64 * 2 ^ s := (Nat.div_lt_iff_lt_mul (Nat.two_pow_pos _)).1 h2
  have hp := Nat.two_pow_pos s
  have a1 := bitLen_lt n h
  have a2 := le_bitLen n (by omega) h
  have e1 : 2 ^ (s + 5) ≤ n := by rw [Nat.pow_add, Nat.mul_comm]; omega
  have e2 : n < 2 ^ (s + 6) := by rw [Nat.pow_add, Nat.mul_comm]; omega
  have b1 : s + 5 < bitLen n := (Nat.pow_lt_pow_iff_right (by omega)).1 (Nat.lt_of_le_of_lt e1 a1)
  have b2 : bitLen n - 1 < s + 6 := (Nat.pow_lt_pow_iff_right (by omega)).1 (Nat.lt_of_le_of_lt a2 e2)
  unfold sh; omega
theorem bk_small (n : Nat) (h : n < 64) : bk n = n := by
  unfold bk; rw [sh_small n h]; simp
theorem lowN_small (i : Nat) (h : i < 64) : lowN i = i := by
  unfold lowN; rw [show i / 32 - 1 = 0 by omega]; simp
theorem lowN_big (s r : Nat) (h1 : 32 ≤ r) (h2 : r < 64) : lowN (32 * s + r) = r * 2 ^ s := by
  unfold lowN
  have e : (32 * s + r) / 32 - 1 = s := by omega
  rw [e]; congr 1; omega
theorem low_bk (n : Nat) (h : n < 2 ^ 64) : lowN (bk n) = n / 2 ^ sh n * 2 ^ sh n := by
  by_cases h64 : n < 64
  · rw [bk_small n h64, lowN_small n h64, sh_small n h64]; simp
  · unfold bk
    rw [lowN_big _ _ (sh_ge n h (by omega)) (sh_div n h)]
theorem bk_low (i : Nat) (h : i ≤ 1919) : lowN i < 2 ^ 64 ∧ bk (lowN i) = i := by
  by_cases h64 : i < 64
  · rw [lowN_small i h64]; exact ⟨by omega, bk_small i h64⟩
  · obtain ⟨s, r, rfl, h1, h2⟩ : ∃ s r, i = 32 * s + r ∧ 32 ≤ r ∧ r < 64 := ⟨i / 32 - 1, i - 32 * (i / 32 - 1), by omega, by omega, by omega⟩
    rw [lowN_big s r h1 h2]
    have hs : s ≤ 58 := by omega
    have hp : r * 2 ^ s < 2 ^ 64 := by
      have : 2 ^ s ≤ 2 ^ 58 := Nat.pow_le_pow_right (by omega) hs
      calc r * 2 ^ s < 64 * 2 ^ s := Nat.mul_lt_mul_of_pos_right h2 (Nat.two_pow_pos s)
        _ ≤ 64 * 2 ^ 58 := Nat.mul_le_mul_left _ this
        _ = 2 ^ 64 := by decide
    have hq : r * 2 ^ s / 2 ^ s = r := Nat.mul_div_cancel _ (Nat.two_pow_pos s)
    refine ⟨hp, ?_⟩
    unfold bk
    rw [bk_char (r * 2 ^ s) s hp (by omega) (by omega), hq]
theorem bk_mono (m n : Nat) (h : n < 2 ^ 64) (hmn : m ≤ n) : bk m ≤ bk n := by
  by_cases hs : sh m = sh n
  · unfold bk; rw [hs]
    exact Nat.add_le_add_left (Nat.div_le_div_right hmn) _
  · have hm := Nat.lt_of_le_of_lt hmn h
    have a := sh_div m hm
    by_cases h32 : n < 64
    · rw [sh_small m (by omega), sh_small n h32] at hs; exact absurd rfl hs
    · have b := sh_ge n h (by omega)
      have hlt : sh m < sh n := by
        have h1 := bitLen_lt m hm
        have : bitLen m ≤ bitLen n := by
          by_cases h0 : m = 0
          · subst h0; rw [bitLen_zero]; omega
          · have := le_bitLen m (by omega) hm
            have h2 := bitLen_lt n h
            have := (Nat.pow_lt_pow_iff_right (a := 2) (by omega)).1 (Nat.lt_of_le_of_lt this (Nat.lt_of_le_of_lt hmn h2))
            omega
        unfold sh at hs ⊢; omega
      unfold bk; omega
theorem lowN_lt (i j : Nat) (h : j ≤ 1919) (hij : i < j) : lowN i < lowN j := by
  have a := bk_low i (by omega)
  have b := bk_low j h
  by_cases hc : lowN j ≤ lowN i
  · have := bk_mono _ _ a.1 hc
    omega
  · omega
theorem lowN_1888 : lowN 1888 = 9223372036854775808 := by decide +kernel
theorem bk_top : bk 9223372036854775808 = 1888 := by decide +kernel
theorem bk_max (n : Nat) (h : n < 9223372036854775808) : bk n ≤ 1887 := by
  have hb := bk_mono n 9223372036854775807 (by omega) (by omega)
  have : bk 9223372036854775807 = 1887 := by decide +kernel
  omega
theorem lowN_max (i : Nat) (h : i ≤ 1887) : lowN i < 9223372036854775808 := by
  have := lowN_lt i 1888 (by omega) (by omega); rw [lowN_1888] at this; exact this
theorem idx_range (n : Int) (h0 : -9223372036854775808 ≤ n) (h1 : n ≤ 9223372036854775807) : -1888 ≤ idx n ∧ idx n ≤ 1887 := by
  unfold idx
  split
  · have := bk_mono (-n).toNat 9223372036854775808 (by omega) (by omega)
    rw [bk_top] at this; omega
  · have := bk_max n.toNat (by omega); omega
theorem low_range (i : Int) : -9223372036854775808 ≤ low i ∧ low i ≤ 9223372036854775807 := by
  unfold low
  split
  · omega
  · split
    · by_cases e : i = -1888
      · subst e; have := lowN_1888; simp only [Int.neg_neg]; rw [show (1888 : Int).toNat = 1888 from rfl, this]; omega
      · have := lowN_max (-i).toNat (by omega); omega
    · have := lowN_max i.toNat (by omega); omega
end Go.Proofs.Ythppcgafanognaa
