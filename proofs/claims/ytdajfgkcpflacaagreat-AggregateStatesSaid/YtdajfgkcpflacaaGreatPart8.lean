/- Own texts, part 8. -/
import Derived.Test.YtdajfgkcpflacaaGreatPart4
import Derived.Test.YtdajfgkcpflacaaGreatPart7
import Derived.Test.YtdajfgkcpflacaaGreatPart2
import Derived.Test.YtdajfgkcpflacaaGreatPart6

namespace Go.Abs
open Go.Proofs Go.RowKit
def dvS (y : Int) : Int := 64 - (Lib.bitLen y.toNat : Int)
def dvY (y : Int) : Int := y * 2 ^ (dvS y).toNat
def dvU (x l y : Int) : Int := (x * 18446744073709551616 + l) * 2 ^ (dvS y).toNat
def dvQ (u n y : Int) : Int := (u * 4294967296 + n) / y
def dvR (u n y : Int) : Int := (u * 4294967296 + n) % y
structure DvI (u n y q r : Int) : Prop where
 eq : q * (y / 4294967296) + r = u
 r0 : 0 ≤ r
 r1 : r < 4294967296
 lo : dvQ u n y ≤ q
 hi : q ≤ u / (y / 4294967296)
def a57 (x l y : Int) : Anns :=
 let Y := dvY y
 let u := dvU x l y / 18446744073709551616
 let v := dvU x l y % 18446744073709551616
 let q1 := dvQ u (v / 4294967296) Y
 let u1 := dvR u (v / 4294967296) Y
 ⟨fun k => if k = 17 then some { α := Int × Int, slots := [2, 8, 9, 10, 11, 13, 14, 15, 16], nb := 0, vals := fun p => [.int .u64 Y, .int .u64 (dvS y), .int .u64 (Y / 4294967296), .int .u64 (Y % 4294967296), .int .u64 u, .int .u64 (v / 4294967296), .int .u64 (v % 4294967296), .int .u64 p.1, .int .u64 p.2], sS := fun _ => ⟨[], []⟩, I := fun p => DvI u (v / 4294967296) Y p.1 p.2, μ := fun p => p.1.toNat }
 else if k = 1000021 then some { α := Unit, slots := [2, 8, 9, 10, 11, 13, 14, 15], nb := 0, vals := fun _ => [.int .u64 Y, .int .u64 (dvS y), .int .u64 (Y / 4294967296), .int .u64 (Y % 4294967296), .int .u64 u, .int .u64 (v / 4294967296), .int .u64 (v % 4294967296), .int .u64 q1], sS := fun _ => ⟨[], []⟩, I := fun _ => True, μ := fun _ => 0 }
 else if k = 24 then some { α := Int × Int, slots := [2, 8, 9, 10, 14, 15, 17, 18, 16], nb := 0, vals := fun p => [.int .u64 Y, .int .u64 (dvS y), .int .u64 (Y / 4294967296), .int .u64 (Y % 4294967296), .int .u64 (v % 4294967296), .int .u64 q1, .int .u64 u1, .int .u64 p.1, .int .u64 p.2], sS := fun _ => ⟨[], []⟩, I := fun p => DvI u1 (v % 4294967296) Y p.1 p.2, μ := fun p => p.1.toNat }
 else if k = 1000028 then some { α := Unit, slots := [2, 8, 14, 15, 17, 18], nb := 0, vals := fun _ => [.int .u64 Y, .int .u64 (dvS y), .int .u64 (v % 4294967296), .int .u64 q1, .int .u64 u1, .int .u64 (dvQ u1 (v % 4294967296) Y)], sS := fun _ => ⟨[], []⟩, I := fun _ => True, μ := fun _ => 0 }
 else none, nA⟩
end Go.Abs
namespace Go.Abs
open Go.Proofs Go.Proofs.K17 Go.RowKit
theorem mul_split (q y : Int) : q * y = q * (y / 4294967296) * 4294967296 + q * (y % 4294967296) := by
 conv => lhs; rw [← Int.mul_ediv_add_emod y 4294967296]
 rw [Int.mul_add, Int.mul_comm 4294967296, Int.mul_assoc]
structure DvOk (u n y : Int) : Prop where
 y0 : 9223372036854775808 ≤ y
 y1 : y < 18446744073709551616
 u0 : 0 ≤ u
 u1 : u < y
 n0 : 0 ≤ n
 n1 : n < 4294967296
theorem dvQ_lo {u n y : Int} (h : DvOk u n y) : dvQ u n y * y ≤ u * 4294967296 + n := Int.ediv_mul_le _ (by have := h.y0; omega)
theorem dvQ_ge {u n y q : Int} (h : DvOk u n y) (hq : q * y ≤ u * 4294967296 + n) : q ≤ dvQ u n y := (Int.le_ediv_iff_mul_le (by have := h.y0; omega)).2 hq
theorem dvQ_lt {u n y q : Int} (h : DvOk u n y) (hq : u * 4294967296 + n < q * y) : dvQ u n y < q := (Int.ediv_lt_iff_lt_mul (by have := h.y0; omega)).2 hq
theorem dvQ_0 {u n y : Int} (h : DvOk u n y) : 0 ≤ dvQ u n y := Int.ediv_nonneg (by have := h.u0; have := h.n0; omega) (by have := h.y0; omega)
theorem dvQ_32 {u n y : Int} (h : DvOk u n y) : dvQ u n y < 4294967296 := dvQ_lt h (by have := h.u1; have := h.n1; omega)
theorem dvR_ok {u n y : Int} (h : DvOk u n y) : 0 ≤ dvR u n y ∧ dvR u n y < y ∧ u * 4294967296 + n = dvQ u n y * y + dvR u n y := by
 have := h.y0
 have e := Int.mul_ediv_add_emod (u * 4294967296 + n) y
 rw [Int.mul_comm] at e
 exact ⟨Int.emod_nonneg _ (by omega), Int.emod_lt_of_pos _ (by omega), e.symm⟩
theorem dv_q {u n y q r : Int} (h : DvOk u n y) (hi : DvI u n y q r) : 0 ≤ q ∧ q ≤ 4294967297 := by
 refine ⟨Int.le_trans (dvQ_0 h) hi.lo, Int.le_trans hi.hi ?_⟩
 have := h.y0; have := h.y1; have := h.u1
 have : u / (y / 4294967296) < 4294967298 := (Int.ediv_lt_iff_lt_mul (by omega)).2 (by omega)
 omega
theorem dv_start {u n y : Int} (h : DvOk u n y) : DvI u n y (u / (y / 4294967296)) (u % (y / 4294967296)) := by
 have h1 := h.y0; have h2 := h.y1; have h3 := h.u1; have h4 := h.u0; have h5 := h.n0; have h6 := h.n1
 have ha : 0 < y / 4294967296 := by omega
 refine ⟨?_, Int.emod_nonneg _ (by omega), ?_, ?_, Int.le_refl _⟩
 ·have := Int.mul_ediv_add_emod u (y / 4294967296)
  rw [Int.mul_comm] at this; exact this
 ·have := Int.emod_lt_of_pos u ha
  omega
 ·refine (Int.le_ediv_iff_mul_le ha).2 ?_
  have a1 := dvQ_lo h
  rw [mul_split] at a1
  have a2 : 0 ≤ dvQ u n y * (y % 4294967296) := Int.mul_nonneg (dvQ_0 h) (by omega)
  omega
theorem dv_done {u n y q r : Int} (h : DvOk u n y) (eq : q * (y / 4294967296) + r = u) (lo : dvQ u n y ≤ q) (hc : q * (y % 4294967296) ≤ 4294967296 * r + n) : q = dvQ u n y := by
 have : q ≤ dvQ u n y := dvQ_ge h (by rw [mul_split q y]; omega)
 omega
theorem dv_dec {u n y q r : Int} (h : DvOk u n y) (hi : DvI u n y q r) (hc : 4294967296 ≤ q ∨ 4294967296 * r + n < q * (y % 4294967296)) :
  dvQ u n y ≤ q - 1 ∧ (q - 1) * (y / 4294967296) + (r + y / 4294967296) = u := by
 constructor
 ·rcases hc with hc | hc
  ·have := dvQ_32 h; omega
  ·have : dvQ u n y < q := dvQ_lt h (by rw [mul_split q y]; have := hi.eq; omega)
   omega
 ·rw [Int.sub_mul]; have := hi.eq; omega
theorem dv_next {u n y q r : Int} (h : DvOk u n y) (hi : DvI u n y q r) (hc : 4294967296 ≤ q ∨ 4294967296 * r + n < q * (y % 4294967296)) (hr : r + y / 4294967296 < 4294967296) : DvI u n y (q - 1) (r + y / 4294967296) := by
 obtain ⟨a1, a2⟩ := dv_dec h hi hc
 exact ⟨a2, by have := hi.r0; have := h.y0; omega, hr, a1, by have := hi.hi; omega⟩
theorem dv_end {u n y q r : Int} (h : DvOk u n y) (hi : DvI u n y q r) (hc : 4294967296 ≤ q ∨ 4294967296 * r + n < q * (y % 4294967296)) (hr : 4294967296 ≤ r + y / 4294967296) : q - 1 = dvQ u n y := by
 obtain ⟨a1, a2⟩ := dv_dec h hi hc
 refine dv_done h a2 a1 ?_
 have hq := (dv_q h hi).2
 have hb : 0 ≤ y % 4294967296 := by omega
 have := Int.mul_le_mul_of_nonneg_right (show q - 1 ≤ 4294967296 by omega) hb
 have := h.n0
 omega
theorem dv_whole {x l y Y u1 n1 n0 p : Int} (hp : 0 < p) (hY : Y = y * p) (_hy : 0 < y) (h1 : DvOk u1 n1 Y) (h0 : 0 ≤ n0 ∧ n0 < 4294967296) (hU : (x * 18446744073709551616 + l) * p = u1 * 18446744073709551616 + n1 * 4294967296 + n0) :
  dvQ u1 n1 Y * 4294967296 + dvQ (dvR u1 n1 Y) n0 Y = (x * 18446744073709551616 + l) / y ∧ dvR (dvR u1 n1 Y) n0 Y / p = (x * 18446744073709551616 + l) % y := by
 have r1 := dvR_ok h1
 have h2 : DvOk (dvR u1 n1 Y) n0 Y := ⟨h1.y0, h1.y1, r1.1, r1.2.1, h0.1, h0.2⟩
 have r2 := dvR_ok h2
 have hYp : 0 < Y := by have := h1.y0; omega
 generalize dvQ u1 n1 Y = q1 at *
 generalize dvR u1 n1 Y = m1 at *
 generalize dvQ m1 n0 Y = q0 at *
 generalize dvR m1 n0 Y = m0 at *
 generalize x * 18446744073709551616 + l = N at *
 have e : N * p = (q1 * 4294967296 + q0) * Y + m0 := by
  rw [Int.add_mul, Int.mul_right_comm]; omega
 have eq : (N * p) / Y = q1 * 4294967296 + q0 := by
  rw [e, Int.add_comm, Int.add_mul_ediv_right _ _ (by omega), Int.ediv_eq_zero_of_lt r2.1 r2.2.1]; omega
 have er : (N * p) % Y = m0 := by
  rw [e, Int.add_comm, Int.add_mul_emod_self_right, Int.emod_eq_of_lt r2.1 r2.2.1]
 subst hY
 rw [Int.mul_ediv_mul_of_pos_left _ _ hp] at eq
 rw [Int.mul_comm N p, Int.mul_comm y p, Int.mul_emod_mul_of_pos _ _ hp] at er
 exact ⟨eq.symm, by rw [← er]; exact Int.mul_ediv_cancel_left _ (by omega)⟩
theorem and_mask {v : Int} (h : uOk v) : IntKind.u64.wrap ((BitVec.ofInt IntKind.u64.bits v &&& BitVec.ofInt IntKind.u64.bits 4294967295).toNat : Int) = v % 4294967296 := by
 show IntKind.u64.wrap ((BitVec.ofInt 64 v &&& BitVec.ofInt 64 4294967295).toNat : Int) = v % 4294967296
 obtain ⟨h0, h1⟩ := h
 obtain ⟨n, rfl⟩ := Int.eq_ofNat_of_zero_le h0
 have e : (BitVec.ofInt 64 (n : Int) &&& BitVec.ofInt 64 4294967295).toNat = n % 4294967296 := by
  rw [BitVec.toNat_and, BitVec.ofInt_natCast, BitVec.toNat_ofNat, Nat.mod_eq_of_lt (by omega)]
  exact Nat.and_two_pow_sub_one_eq_mod n 32
 rw [e, wrapU]
 omega
theorem or_add {a b : Int} {s : Nat} (ha : 0 ≤ a) (hs : s ≤ 63) (hb : 0 ≤ b) (hb2 : b < 2 ^ s) (hu : a * 2 ^ s < 18446744073709551616) : IntKind.u64.wrap ((BitVec.ofInt IntKind.u64.bits (a * 2 ^ s) ||| BitVec.ofInt IntKind.u64.bits b).toNat : Int) = a * 2 ^ s + b := by
 show IntKind.u64.wrap ((BitVec.ofInt 64 (a * 2 ^ s) ||| BitVec.ofInt 64 b).toNat : Int) = _
 obtain ⟨A, rfl⟩ := Int.eq_ofNat_of_zero_le ha
 obtain ⟨B, rfl⟩ := Int.eq_ofNat_of_zero_le hb
 have hB : B < 2 ^ s := by
  have : ((B : Nat) : Int) < ((2 ^ s : Nat) : Int) := by rw [Int.natCast_pow]; exact hb2
  omega
 have hp : 2 ^ s ≤ 2 ^ 63 := Nat.pow_le_pow_right (by decide) hs
 have eA : ((A : Int) * 2 ^ s) = ((2 ^ s * A : Nat) : Int) := by
  rw [Int.natCast_mul, Int.natCast_pow, Int.mul_comm]; rfl
 have hA : 2 ^ s * A < 18446744073709551616 := by rw [eA] at hu; omega
 rw [eA]
 have e : (BitVec.ofInt 64 ((2 ^ s * A : Nat) : Int) ||| BitVec.ofInt 64 (B : Int)).toNat = 2 ^ s * A + B := by
  rw [BitVec.toNat_or, BitVec.ofInt_natCast, BitVec.toNat_ofNat, BitVec.ofInt_natCast, BitVec.toNat_ofNat, Nat.mod_eq_of_lt (by omega), Nat.mod_eq_of_lt (by omega), Nat.two_pow_add_eq_or_of_lt hB]
 have hsum : 2 ^ s * A + B < 18446744073709551616 := by
  rw [← e]; exact BitVec.isLt _
 rw [e, wrapU]
 omega
end Go.Abs
namespace Go.Abs
open Go.Proofs Go.RowKit
theorem w57 (x l y : Int) (r : AV) : (pureW PA GA XA (tbl [(64, s59)]) (itbl []) (a57 x l y) [] 43 [.int .u64 x, .int .u64 l, .int .u64 y] (r, [])) =
(((y == (0 : Int)) = true → False) ∧ ((y == (0 : Int)) = false → (decide (y ≤ x) = true → False) ∧ (decide (y ≤ x) = false → ((x == (0 : Int)) = true → y ≠ (0 : Int) ∧ y ≠ (0 : Int) ∧ RetIs (AV.tup [.int .u64 (IntKind.u64.wrap (l.tdiv y)), .int .u64 (l.tmod y)]) [] (r, [])) ∧ ((x == (0 : Int)) = false → ∃ (n : Int), CallIs (tbl [(64, s59)] 64 [.int .u64 y]) (AV.int IntKind.i64 n) [] ∧ (0 : Int) ≤ IntKind.u64.wrap n ∧ (0 : Int) ≤ (32 : Int) ∧ (0 : Int) ≤ IntKind.u64.wrap n ∧ (0 : Int) ≤ IntKind.u64.wrap ((64 : Int) - IntKind.u64.wrap n) ∧ (0 : Int) ≤ IntKind.u64.wrap n ∧ (0 : Int) ≤ (32 : Int) ∧ (IntKind.u64.wrap (y * (2 : Int) ^ min (IntKind.u64.wrap n).toNat 64)).fdiv (4294967296 : Int) ≠ (0 : Int) ∧ ((∃ (y_1 : Int × Int), ValsAre [.int .u64 (IntKind.u64.wrap (y * (2 : Int) ^ min (IntKind.u64.wrap n).toNat 64)), .int .u64 (IntKind.u64.wrap n), .int .u64 ((IntKind.u64.wrap (y * (2 : Int) ^ min (IntKind.u64.wrap n).toNat 64)).fdiv (4294967296 : Int)), .int .u64 (IntKind.u64.wrap (↑(BitVec.ofInt IntKind.u64.bits (IntKind.u64.wrap (y * (2 : Int) ^ min (IntKind.u64.wrap n).toNat 64)) &&& BitVec.ofInt IntKind.u64.bits (4294967295 : Int)).toNat : Int)), .int .u64 (IntKind.u64.wrap (↑(BitVec.ofInt IntKind.u64.bits (IntKind.u64.wrap (x * (2 : Int) ^ min (IntKind.u64.wrap n).toNat IntKind.u64.bits)) ||| BitVec.ofInt IntKind.u64.bits (l.fdiv ((2 : Int) ^ min (IntKind.u64.wrap ((64 : Int) - IntKind.u64.wrap n)).toNat IntKind.u64.bits))).toNat : Int)), .int .u64 ((IntKind.u64.wrap (l * (2 : Int) ^ min (IntKind.u64.wrap n).toNat 64)).fdiv (4294967296 : Int)),
 .int .u64 (IntKind.u64.wrap (↑(BitVec.ofInt IntKind.u64.bits (IntKind.u64.wrap (l * (2 : Int) ^ min (IntKind.u64.wrap n).toNat 64)) &&& BitVec.ofInt IntKind.u64.bits (4294967295 : Int)).toNat : Int)), .int .u64 (IntKind.u64.wrap ((IntKind.u64.wrap (↑(BitVec.ofInt IntKind.u64.bits (IntKind.u64.wrap (x * (2 : Int) ^ min (IntKind.u64.wrap n).toNat IntKind.u64.bits)) ||| BitVec.ofInt IntKind.u64.bits (l.fdiv ((2 : Int) ^ min (IntKind.u64.wrap ((64 : Int) - IntKind.u64.wrap n)).toNat IntKind.u64.bits))).toNat : Int)).tdiv ((IntKind.u64.wrap (y * (2 : Int) ^ min (IntKind.u64.wrap n).toNat 64)).fdiv (4294967296 : Int)))), .int .u64 (IntKind.u64.wrap (IntKind.u64.wrap (↑(BitVec.ofInt IntKind.u64.bits (IntKind.u64.wrap (x * (2 : Int) ^ min (IntKind.u64.wrap n).toNat IntKind.u64.bits)) ||| BitVec.ofInt IntKind.u64.bits (l.fdiv ((2 : Int) ^ min (IntKind.u64.wrap ((64 : Int) - IntKind.u64.wrap n)).toNat IntKind.u64.bits))).toNat : Int) - IntKind.u64.wrap (IntKind.u64.wrap ((IntKind.u64.wrap (↑(BitVec.ofInt IntKind.u64.bits (IntKind.u64.wrap (x * (2 : Int) ^ min (IntKind.u64.wrap n).toNat IntKind.u64.bits)) ||| BitVec.ofInt IntKind.u64.bits (l.fdiv ((2 : Int) ^ min (IntKind.u64.wrap ((64 : Int) - IntKind.u64.wrap n)).toNat IntKind.u64.bits))).toNat : Int)).tdiv ((IntKind.u64.wrap (y * (2 : Int) ^ min (IntKind.u64.wrap n).toNat 64)).fdiv (4294967296 : Int))) * (IntKind.u64.wrap (y * (2 : Int) ^ min (IntKind.u64.wrap n).toNat 64)).fdiv (4294967296 : Int))))] [.int .u64 (dvY y), .int .u64 (dvS y), .int .u64 (dvY y / (4294967296 : Int)),
 .int .u64 (dvY y % (4294967296 : Int)), .int .u64 (dvU x l y / (18446744073709551616 : Int)), .int .u64 (dvU x l y % (18446744073709551616 : Int) / (4294967296 : Int)), .int .u64 (dvU x l y % (18446744073709551616 : Int) % (4294967296 : Int)), .int .u64 y_1.fst, .int .u64 y_1.snd] ∧ StIs { boxes := [], live := [] } { boxes := [], live := [] } ∧ DvI (dvU x l y / (18446744073709551616 : Int)) (dvU x l y % (18446744073709551616 : Int) / (4294967296 : Int)) (dvY y) y_1.fst y_1.snd ∧ True) ∧ ∀ (x_1 : Int × Int), DvI (dvU x l y / (18446744073709551616 : Int)) (dvU x l y % (18446744073709551616 : Int) / (4294967296 : Int)) (dvY y) x_1.fst x_1.snd → (decide (x_1.fst ≥ (4294967296 : Int)) = true → (decide (IntKind.u64.wrap (x_1.snd + dvY y / (4294967296 : Int)) ≥ (4294967296 : Int)) = true → ∃ (_y_1 : Unit), ValsAre [.int .u64 (dvY y), .int .u64 (dvS y), .int .u64 (dvY y / (4294967296 : Int)), .int .u64 (dvY y % (4294967296 : Int)), .int .u64 (dvU x l y / (18446744073709551616 : Int)), .int .u64 (dvU x l y % (18446744073709551616 : Int) / (4294967296 : Int)), .int .u64 (dvU x l y % (18446744073709551616 : Int) % (4294967296 : Int)), .int .u64 (IntKind.u64.wrap (x_1.fst - (1 : Int)))] [.int .u64 (dvY y), .int .u64 (dvS y), .int .u64 (dvY y / (4294967296 : Int)), .int .u64 (dvY y % (4294967296 : Int)), .int .u64 (dvU x l y / (18446744073709551616 : Int)), .int .u64 (dvU x l y % (18446744073709551616 : Int) / (4294967296 : Int)), .int .u64 (dvU x l y % (18446744073709551616 : Int) % (4294967296 : Int)),
 .int .u64 (dvQ (dvU x l y / (18446744073709551616 : Int)) (dvU x l y % (18446744073709551616 : Int) / (4294967296 : Int)) (dvY y))] ∧ StIs { boxes := [], live := [] } { boxes := [], live := [] } ∧ True ∧ True) ∧ (decide (IntKind.u64.wrap (x_1.snd + dvY y / (4294967296 : Int)) ≥ (4294967296 : Int)) = false → ∃ (y_1 : Int × Int), ValsAre [.int .u64 (dvY y), .int .u64 (dvS y), .int .u64 (dvY y / (4294967296 : Int)), .int .u64 (dvY y % (4294967296 : Int)), .int .u64 (dvU x l y / (18446744073709551616 : Int)), .int .u64 (dvU x l y % (18446744073709551616 : Int) / (4294967296 : Int)), .int .u64 (dvU x l y % (18446744073709551616 : Int) % (4294967296 : Int)), .int .u64 (IntKind.u64.wrap (x_1.fst - (1 : Int))), .int .u64 (IntKind.u64.wrap (x_1.snd + dvY y / (4294967296 : Int)))] [.int .u64 (dvY y), .int .u64 (dvS y), .int .u64 (dvY y / (4294967296 : Int)), .int .u64 (dvY y % (4294967296 : Int)), .int .u64 (dvU x l y / (18446744073709551616 : Int)), .int .u64 (dvU x l y % (18446744073709551616 : Int) / (4294967296 : Int)), .int .u64 (dvU x l y % (18446744073709551616 : Int) % (4294967296 : Int)), .int .u64 y_1.fst, .int .u64 y_1.snd] ∧ StIs { boxes := [], live := [] } { boxes := [], live := [] } ∧ DvI (dvU x l y / (18446744073709551616 : Int)) (dvU x l y % (18446744073709551616 : Int) / (4294967296 : Int)) (dvY y) y_1.fst y_1.snd ∧ y_1.fst.toNat < x_1.fst.toNat)) ∧ (decide (x_1.fst ≥ (4294967296 : Int)) = false → (decide (IntKind.u64.wrap (x_1.fst * (dvY y % (4294967296 : Int))) > IntKind.u64.wrap
 (IntKind.u64.wrap ((4294967296 : Int) * x_1.snd) + dvU x l y % (18446744073709551616 : Int) / (4294967296 : Int))) = true → (decide (IntKind.u64.wrap (x_1.snd + dvY y / (4294967296 : Int)) ≥ (4294967296 : Int)) = true → ∃ (_y_1 : Unit), ValsAre [.int .u64 (dvY y), .int .u64 (dvS y), .int .u64 (dvY y / (4294967296 : Int)), .int .u64 (dvY y % (4294967296 : Int)), .int .u64 (dvU x l y / (18446744073709551616 : Int)), .int .u64 (dvU x l y % (18446744073709551616 : Int) / (4294967296 : Int)), .int .u64 (dvU x l y % (18446744073709551616 : Int) % (4294967296 : Int)), .int .u64 (IntKind.u64.wrap (x_1.fst - (1 : Int)))] [.int .u64 (dvY y), .int .u64 (dvS y), .int .u64 (dvY y / (4294967296 : Int)), .int .u64 (dvY y % (4294967296 : Int)), .int .u64 (dvU x l y / (18446744073709551616 : Int)), .int .u64 (dvU x l y % (18446744073709551616 : Int) / (4294967296 : Int)), .int .u64 (dvU x l y % (18446744073709551616 : Int) % (4294967296 : Int)), .int .u64 (dvQ (dvU x l y / (18446744073709551616 : Int)) (dvU x l y % (18446744073709551616 : Int) / (4294967296 : Int)) (dvY y))] ∧ StIs { boxes := [], live := [] } { boxes := [], live := [] } ∧ True ∧ True) ∧ (decide (IntKind.u64.wrap (x_1.snd + dvY y / (4294967296 : Int)) ≥ (4294967296 : Int)) = false → ∃ (y_1 : Int × Int), ValsAre [.int .u64 (dvY y), .int .u64 (dvS y), .int .u64 (dvY y / (4294967296 : Int)), .int .u64 (dvY y % (4294967296 : Int)), .int .u64 (dvU x l y / (18446744073709551616 : Int)), .int .u64 (dvU x l y % (18446744073709551616 : Int) / (4294967296 : Int)),
 .int .u64 (dvU x l y % (18446744073709551616 : Int) % (4294967296 : Int)), .int .u64 (IntKind.u64.wrap (x_1.fst - (1 : Int))), .int .u64 (IntKind.u64.wrap (x_1.snd + dvY y / (4294967296 : Int)))] [.int .u64 (dvY y), .int .u64 (dvS y), .int .u64 (dvY y / (4294967296 : Int)), .int .u64 (dvY y % (4294967296 : Int)), .int .u64 (dvU x l y / (18446744073709551616 : Int)), .int .u64 (dvU x l y % (18446744073709551616 : Int) / (4294967296 : Int)), .int .u64 (dvU x l y % (18446744073709551616 : Int) % (4294967296 : Int)), .int .u64 y_1.fst, .int .u64 y_1.snd] ∧ StIs { boxes := [], live := [] } { boxes := [], live := [] } ∧ DvI (dvU x l y / (18446744073709551616 : Int)) (dvU x l y % (18446744073709551616 : Int) / (4294967296 : Int)) (dvY y) y_1.fst y_1.snd ∧ y_1.fst.toNat < x_1.fst.toNat)) ∧ (decide (IntKind.u64.wrap (x_1.fst * (dvY y % (4294967296 : Int))) > IntKind.u64.wrap (IntKind.u64.wrap ((4294967296 : Int) * x_1.snd) + dvU x l y % (18446744073709551616 : Int) / (4294967296 : Int))) = false → ∃ (_y_1 : Unit), ValsAre [.int .u64 (dvY y), .int .u64 (dvS y), .int .u64 (dvY y / (4294967296 : Int)), .int .u64 (dvY y % (4294967296 : Int)), .int .u64 (dvU x l y / (18446744073709551616 : Int)), .int .u64 (dvU x l y % (18446744073709551616 : Int) / (4294967296 : Int)), .int .u64 (dvU x l y % (18446744073709551616 : Int) % (4294967296 : Int)), .int .u64 x_1.fst] [.int .u64 (dvY y), .int .u64 (dvS y), .int .u64 (dvY y / (4294967296 : Int)), .int .u64 (dvY y % (4294967296 : Int)), .int .u64 (dvU x l y / (18446744073709551616 : Int)),
 .int .u64 (dvU x l y % (18446744073709551616 : Int) / (4294967296 : Int)), .int .u64 (dvU x l y % (18446744073709551616 : Int) % (4294967296 : Int)), .int .u64 (dvQ (dvU x l y / (18446744073709551616 : Int)) (dvU x l y % (18446744073709551616 : Int) / (4294967296 : Int)) (dvY y))] ∧ StIs { boxes := [], live := [] } { boxes := [], live := [] } ∧ True ∧ True))) ∧ ∀ (_x_1 : Unit), True → True → dvY y / (4294967296 : Int) ≠ (0 : Int) ∧ ((∃ (y_1 : Int × Int), ValsAre [.int .u64 (dvY y), .int .u64 (dvS y), .int .u64 (dvY y / (4294967296 : Int)), .int .u64 (dvY y % (4294967296 : Int)), .int .u64 (dvU x l y % (18446744073709551616 : Int) % (4294967296 : Int)), .int .u64 (dvQ (dvU x l y / (18446744073709551616 : Int)) (dvU x l y % (18446744073709551616 : Int) / (4294967296 : Int)) (dvY y)), .int .u64 (IntKind.u64.wrap (IntKind.u64.wrap (IntKind.u64.wrap (dvU x l y / (18446744073709551616 : Int) * (4294967296 : Int)) + dvU x l y % (18446744073709551616 : Int) / (4294967296 : Int)) - IntKind.u64.wrap (dvQ (dvU x l y / (18446744073709551616 : Int)) (dvU x l y % (18446744073709551616 : Int) / (4294967296 : Int)) (dvY y) * dvY y))), .int .u64 (IntKind.u64.wrap ((IntKind.u64.wrap (IntKind.u64.wrap (IntKind.u64.wrap (dvU x l y / (18446744073709551616 : Int) * (4294967296 : Int)) + dvU x l y % (18446744073709551616 : Int) / (4294967296 : Int)) - IntKind.u64.wrap (dvQ (dvU x l y / (18446744073709551616 : Int)) (dvU x l y % (18446744073709551616 : Int) / (4294967296 : Int)) (dvY y) * dvY y))).tdiv
 (dvY y / (4294967296 : Int)))), .int .u64 (IntKind.u64.wrap (IntKind.u64.wrap (IntKind.u64.wrap (IntKind.u64.wrap (dvU x l y / (18446744073709551616 : Int) * (4294967296 : Int)) + dvU x l y % (18446744073709551616 : Int) / (4294967296 : Int)) - IntKind.u64.wrap (dvQ (dvU x l y / (18446744073709551616 : Int)) (dvU x l y % (18446744073709551616 : Int) / (4294967296 : Int)) (dvY y) * dvY y)) - IntKind.u64.wrap (IntKind.u64.wrap ((IntKind.u64.wrap (IntKind.u64.wrap (IntKind.u64.wrap (dvU x l y / (18446744073709551616 : Int) * (4294967296 : Int)) + dvU x l y % (18446744073709551616 : Int) / (4294967296 : Int)) - IntKind.u64.wrap (dvQ (dvU x l y / (18446744073709551616 : Int)) (dvU x l y % (18446744073709551616 : Int) / (4294967296 : Int)) (dvY y) * dvY y))).tdiv (dvY y / (4294967296 : Int))) * (dvY y / (4294967296 : Int)))))] [.int .u64 (dvY y), .int .u64 (dvS y), .int .u64 (dvY y / (4294967296 : Int)), .int .u64 (dvY y % (4294967296 : Int)), .int .u64 (dvU x l y % (18446744073709551616 : Int) % (4294967296 : Int)), .int .u64 (dvQ (dvU x l y / (18446744073709551616 : Int)) (dvU x l y % (18446744073709551616 : Int) / (4294967296 : Int)) (dvY y)), .int .u64 (dvR (dvU x l y / (18446744073709551616 : Int)) (dvU x l y % (18446744073709551616 : Int) / (4294967296 : Int)) (dvY y)), .int .u64 y_1.fst, .int .u64 y_1.snd] ∧ StIs { boxes := [], live := [] } { boxes := [], live := [] } ∧ DvI (dvR (dvU x l y / (18446744073709551616 : Int)) (dvU x l y % (18446744073709551616 : Int) / (4294967296 : Int)) (dvY y))
 (dvU x l y % (18446744073709551616 : Int) % (4294967296 : Int)) (dvY y) y_1.fst y_1.snd ∧ True) ∧ ∀ (x_2 : Int × Int), DvI (dvR (dvU x l y / (18446744073709551616 : Int)) (dvU x l y % (18446744073709551616 : Int) / (4294967296 : Int)) (dvY y)) (dvU x l y % (18446744073709551616 : Int) % (4294967296 : Int)) (dvY y) x_2.fst x_2.snd → (decide (x_2.fst ≥ (4294967296 : Int)) = true → (decide (IntKind.u64.wrap (x_2.snd + dvY y / (4294967296 : Int)) ≥ (4294967296 : Int)) = true → ∃ (_y_1 : Unit), ValsAre [.int .u64 (dvY y), .int .u64 (dvS y), .int .u64 (dvU x l y % (18446744073709551616 : Int) % (4294967296 : Int)), .int .u64 (dvQ (dvU x l y / (18446744073709551616 : Int)) (dvU x l y % (18446744073709551616 : Int) / (4294967296 : Int)) (dvY y)), .int .u64 (dvR (dvU x l y / (18446744073709551616 : Int)) (dvU x l y % (18446744073709551616 : Int) / (4294967296 : Int)) (dvY y)), .int .u64 (IntKind.u64.wrap (x_2.fst - (1 : Int)))] [.int .u64 (dvY y), .int .u64 (dvS y), .int .u64 (dvU x l y % (18446744073709551616 : Int) % (4294967296 : Int)), .int .u64 (dvQ (dvU x l y / (18446744073709551616 : Int)) (dvU x l y % (18446744073709551616 : Int) / (4294967296 : Int)) (dvY y)), .int .u64 (dvR (dvU x l y / (18446744073709551616 : Int)) (dvU x l y % (18446744073709551616 : Int) / (4294967296 : Int)) (dvY y)), .int .u64 (dvQ (dvR (dvU x l y / (18446744073709551616 : Int)) (dvU x l y % (18446744073709551616 : Int) / (4294967296 : Int)) (dvY y)) (dvU x l y % (18446744073709551616 : Int) % (4294967296 : Int)) (dvY y))] ∧
 StIs { boxes := [], live := [] } { boxes := [], live := [] } ∧ True ∧ True) ∧ (decide (IntKind.u64.wrap (x_2.snd + dvY y / (4294967296 : Int)) ≥ (4294967296 : Int)) = false → ∃ (y_1 : Int × Int), ValsAre [.int .u64 (dvY y), .int .u64 (dvS y), .int .u64 (dvY y / (4294967296 : Int)), .int .u64 (dvY y % (4294967296 : Int)), .int .u64 (dvU x l y % (18446744073709551616 : Int) % (4294967296 : Int)), .int .u64 (dvQ (dvU x l y / (18446744073709551616 : Int)) (dvU x l y % (18446744073709551616 : Int) / (4294967296 : Int)) (dvY y)), .int .u64 (dvR (dvU x l y / (18446744073709551616 : Int)) (dvU x l y % (18446744073709551616 : Int) / (4294967296 : Int)) (dvY y)), .int .u64 (IntKind.u64.wrap (x_2.fst - (1 : Int))), .int .u64 (IntKind.u64.wrap (x_2.snd + dvY y / (4294967296 : Int)))] [.int .u64 (dvY y), .int .u64 (dvS y), .int .u64 (dvY y / (4294967296 : Int)), .int .u64 (dvY y % (4294967296 : Int)), .int .u64 (dvU x l y % (18446744073709551616 : Int) % (4294967296 : Int)), .int .u64 (dvQ (dvU x l y / (18446744073709551616 : Int)) (dvU x l y % (18446744073709551616 : Int) / (4294967296 : Int)) (dvY y)), .int .u64 (dvR (dvU x l y / (18446744073709551616 : Int)) (dvU x l y % (18446744073709551616 : Int) / (4294967296 : Int)) (dvY y)), .int .u64 y_1.fst, .int .u64 y_1.snd] ∧ StIs { boxes := [], live := [] } { boxes := [], live := [] } ∧ DvI (dvR (dvU x l y / (18446744073709551616 : Int)) (dvU x l y % (18446744073709551616 : Int) / (4294967296 : Int)) (dvY y)) (dvU x l y % (18446744073709551616 : Int) % (4294967296 : Int)) (dvY y) y_1.fst y_1.snd ∧
 y_1.fst.toNat < x_2.fst.toNat)) ∧ (decide (x_2.fst ≥ (4294967296 : Int)) = false → (decide (IntKind.u64.wrap (x_2.fst * (dvY y % (4294967296 : Int))) > IntKind.u64.wrap (IntKind.u64.wrap ((4294967296 : Int) * x_2.snd) + dvU x l y % (18446744073709551616 : Int) % (4294967296 : Int))) = true → (decide (IntKind.u64.wrap (x_2.snd + dvY y / (4294967296 : Int)) ≥ (4294967296 : Int)) = true → ∃ (_y_1 : Unit), ValsAre [.int .u64 (dvY y), .int .u64 (dvS y), .int .u64 (dvU x l y % (18446744073709551616 : Int) % (4294967296 : Int)), .int .u64 (dvQ (dvU x l y / (18446744073709551616 : Int)) (dvU x l y % (18446744073709551616 : Int) / (4294967296 : Int)) (dvY y)), .int .u64 (dvR (dvU x l y / (18446744073709551616 : Int)) (dvU x l y % (18446744073709551616 : Int) / (4294967296 : Int)) (dvY y)), .int .u64 (IntKind.u64.wrap (x_2.fst - (1 : Int)))] [.int .u64 (dvY y), .int .u64 (dvS y), .int .u64 (dvU x l y % (18446744073709551616 : Int) % (4294967296 : Int)), .int .u64 (dvQ (dvU x l y / (18446744073709551616 : Int)) (dvU x l y % (18446744073709551616 : Int) / (4294967296 : Int)) (dvY y)), .int .u64 (dvR (dvU x l y / (18446744073709551616 : Int)) (dvU x l y % (18446744073709551616 : Int) / (4294967296 : Int)) (dvY y)), .int .u64 (dvQ (dvR (dvU x l y / (18446744073709551616 : Int)) (dvU x l y % (18446744073709551616 : Int) / (4294967296 : Int)) (dvY y)) (dvU x l y % (18446744073709551616 : Int) % (4294967296 : Int)) (dvY y))] ∧ StIs { boxes := [], live := [] } { boxes := [], live := [] } ∧ True ∧ True) ∧
 (decide (IntKind.u64.wrap (x_2.snd + dvY y / (4294967296 : Int)) ≥ (4294967296 : Int)) = false → ∃ (y_1 : Int × Int), ValsAre [.int .u64 (dvY y), .int .u64 (dvS y), .int .u64 (dvY y / (4294967296 : Int)), .int .u64 (dvY y % (4294967296 : Int)), .int .u64 (dvU x l y % (18446744073709551616 : Int) % (4294967296 : Int)), .int .u64 (dvQ (dvU x l y / (18446744073709551616 : Int)) (dvU x l y % (18446744073709551616 : Int) / (4294967296 : Int)) (dvY y)), .int .u64 (dvR (dvU x l y / (18446744073709551616 : Int)) (dvU x l y % (18446744073709551616 : Int) / (4294967296 : Int)) (dvY y)), .int .u64 (IntKind.u64.wrap (x_2.fst - (1 : Int))), .int .u64 (IntKind.u64.wrap (x_2.snd + dvY y / (4294967296 : Int)))] [.int .u64 (dvY y), .int .u64 (dvS y), .int .u64 (dvY y / (4294967296 : Int)), .int .u64 (dvY y % (4294967296 : Int)), .int .u64 (dvU x l y % (18446744073709551616 : Int) % (4294967296 : Int)), .int .u64 (dvQ (dvU x l y / (18446744073709551616 : Int)) (dvU x l y % (18446744073709551616 : Int) / (4294967296 : Int)) (dvY y)), .int .u64 (dvR (dvU x l y / (18446744073709551616 : Int)) (dvU x l y % (18446744073709551616 : Int) / (4294967296 : Int)) (dvY y)), .int .u64 y_1.fst, .int .u64 y_1.snd] ∧ StIs { boxes := [], live := [] } { boxes := [], live := [] } ∧ DvI (dvR (dvU x l y / (18446744073709551616 : Int)) (dvU x l y % (18446744073709551616 : Int) / (4294967296 : Int)) (dvY y)) (dvU x l y % (18446744073709551616 : Int) % (4294967296 : Int)) (dvY y) y_1.fst y_1.snd ∧ y_1.fst.toNat < x_2.fst.toNat)) ∧
 (decide (IntKind.u64.wrap (x_2.fst * (dvY y % (4294967296 : Int))) > IntKind.u64.wrap (IntKind.u64.wrap ((4294967296 : Int) * x_2.snd) + dvU x l y % (18446744073709551616 : Int) % (4294967296 : Int))) = false → ∃ (_y_1 : Unit), ValsAre [.int .u64 (dvY y), .int .u64 (dvS y), .int .u64 (dvU x l y % (18446744073709551616 : Int) % (4294967296 : Int)), .int .u64 (dvQ (dvU x l y / (18446744073709551616 : Int)) (dvU x l y % (18446744073709551616 : Int) / (4294967296 : Int)) (dvY y)), .int .u64 (dvR (dvU x l y / (18446744073709551616 : Int)) (dvU x l y % (18446744073709551616 : Int) / (4294967296 : Int)) (dvY y)), .int .u64 x_2.fst] [.int .u64 (dvY y), .int .u64 (dvS y), .int .u64 (dvU x l y % (18446744073709551616 : Int) % (4294967296 : Int)), .int .u64 (dvQ (dvU x l y / (18446744073709551616 : Int)) (dvU x l y % (18446744073709551616 : Int) / (4294967296 : Int)) (dvY y)), .int .u64 (dvR (dvU x l y / (18446744073709551616 : Int)) (dvU x l y % (18446744073709551616 : Int) / (4294967296 : Int)) (dvY y)), .int .u64 (dvQ (dvR (dvU x l y / (18446744073709551616 : Int)) (dvU x l y % (18446744073709551616 : Int) / (4294967296 : Int)) (dvY y)) (dvU x l y % (18446744073709551616 : Int) % (4294967296 : Int)) (dvY y))] ∧ StIs { boxes := [], live := [] } { boxes := [], live := [] } ∧ True ∧ True))) ∧ ∀ (_x_2 : Unit), True → True → (0 : Int) ≤ dvS y ∧ RetIs (AV.tup [.int .u64 (IntKind.u64.wrap (IntKind.u64.wrap (dvQ (dvU x l y / (18446744073709551616 : Int)) (dvU x l y % (18446744073709551616 : Int) / (4294967296 : Int)) (dvY y) *
 (4294967296 : Int)) + dvQ (dvR (dvU x l y / (18446744073709551616 : Int)) (dvU x l y % (18446744073709551616 : Int) / (4294967296 : Int)) (dvY y)) (dvU x l y % (18446744073709551616 : Int) % (4294967296 : Int)) (dvY y))), .int .u64 ((IntKind.u64.wrap (IntKind.u64.wrap (IntKind.u64.wrap (dvR (dvU x l y / (18446744073709551616 : Int)) (dvU x l y % (18446744073709551616 : Int) / (4294967296 : Int)) (dvY y) * (4294967296 : Int)) + dvU x l y % (18446744073709551616 : Int) % (4294967296 : Int)) - IntKind.u64.wrap (dvQ (dvR (dvU x l y / (18446744073709551616 : Int)) (dvU x l y % (18446744073709551616 : Int) / (4294967296 : Int)) (dvY y)) (dvU x l y % (18446744073709551616 : Int) % (4294967296 : Int)) (dvY y) * dvY y))).fdiv ((2 : Int) ^ min (dvS y).toNat 64))]) [] (r, []))))) := by kernel_rfl
end Go.Abs
namespace Go.Abs
open Go.Proofs Go.Proofs.K17 Go.RowKit
theorem dvS_ok {y : Int} (h : uOk y) (h0 : 0 < y) : 0 ≤ dvS y ∧ dvS y ≤ 63 ∧ 9223372036854775808 ≤ dvY y ∧ dvY y < 18446744073709551616 := by
 obtain ⟨n, rfl⟩ := Int.eq_ofNat_of_zero_le h.1
 have hn : n < 2 ^ 64 := by have := h.2; omega
 have hp : 0 < n := by omega
 have e : dvS (n : Int) = 64 - (Lib.bitLen n : Int) := rfl
 have hb : Lib.bitLen n ≤ 64 := Lib.bitLen_le n 64 (by omega) (by omega)
 have h1 := bitLen_lt n hn
 have h2 := le_bitLen n hp hn
 have h3 : Lib.bitLen n ≠ 0 := fun e0 => by rw [e0] at h1; omega
 have hs : (dvS (n : Int)).toNat = 64 - Lib.bitLen n := by rw [e]; omega
 have eY : dvY (n : Int) = ((n * 2 ^ (64 - Lib.bitLen n) : Nat) : Int) := by
  unfold dvY; rw [hs, Int.natCast_mul, Int.natCast_pow]; rfl
 rw [eY, e]
 have e1 : 2 ^ (Lib.bitLen n) * 2 ^ (64 - Lib.bitLen n) = 2 ^ 64 := by rw [← Nat.pow_add]; congr 1; omega
 have e2 : 2 ^ (Lib.bitLen n - 1) * 2 ^ (64 - Lib.bitLen n) = 2 ^ 63 := by rw [← Nat.pow_add]; congr 1; omega
 have hpp : 0 < 2 ^ (64 - Lib.bitLen n) := Nat.two_pow_pos _
 have a1 := Nat.mul_lt_mul_of_pos_right h1 hpp
 have a2 := Nat.mul_le_mul_right (2 ^ (64 - Lib.bitLen n)) h2
 rw [e1] at a1
 rw [e2] at a2
 refine ⟨by omega, by omega, by omega, by omega⟩
theorem dv_first {u n y : Int} (h : DvOk u n y) : IntKind.u64.wrap (u.tdiv (y / 4294967296)) = u / (y / 4294967296) ∧ IntKind.u64.wrap (u - IntKind.u64.wrap (u / (y / 4294967296) * (y / 4294967296))) = u % (y / 4294967296) := by
 have h1 := h.y0; have h2 := h.y1; have h3 := h.u1; have h4 := h.u0
 have a0 : 0 ≤ u / (y / 4294967296) := Int.ediv_nonneg h4 (by omega)
 have a1 : u / (y / 4294967296) ≤ u := Int.ediv_le_self _ h4
 have e := Int.mul_ediv_add_emod u (y / 4294967296)
 have b0 : 0 ≤ u % (y / 4294967296) := Int.emod_nonneg _ (by omega)
 rw [Int.mul_comm] at e
 have m0 : 0 ≤ u / (y / 4294967296) * (y / 4294967296) := Int.mul_nonneg a0 (by omega)
 refine ⟨?_, ?_⟩
 ·rw [Int.tdiv_eq_ediv_of_nonneg h4, wrapU]; omega
 ·generalize u / (y / 4294967296) * (y / 4294967296) = m at *
  generalize u % (y / 4294967296) = k at *
  rw [wrapU, wrapU]; omega
theorem dv_cmp {q r n y : Int} (h0 : 0 ≤ q) (h1 : q < 4294967296) (r0 : 0 ≤ r) (r1 : r < 4294967296) (n0 : 0 ≤ n) (n1 : n < 4294967296) : IntKind.u64.wrap (q * (y % 4294967296)) = q * (y % 4294967296) ∧ IntKind.u64.wrap (IntKind.u64.wrap (4294967296 * r) + n) = 4294967296 * r + n := by
 have hb : 0 ≤ y % 4294967296 := by omega
 have m0 := Int.mul_nonneg h0 hb
 have m1 := Int.mul_le_mul_of_nonneg_right (show q ≤ 4294967295 by omega) hb
 exact ⟨by rw [wrapU]; omega, by rw [wrapU, wrapU]; omega⟩
theorem dv_w1 {u n y q r : Int} (h : DvOk u n y) (hi : DvI u n y q r) (hc : 4294967296 ≤ q ∨ 4294967296 * r + n < q * (y % 4294967296)) : IntKind.u64.wrap (q - 1) = q - 1 ∧ 1 ≤ q := by
 have := dv_dec h hi hc
 have := dvQ_0 h
 have := dv_q h hi
 exact ⟨by rw [wrapU]; omega, by omega⟩
theorem dv_w2 {u n y q r : Int} (h : DvOk u n y) (hi : DvI u n y q r) : IntKind.u64.wrap (r + y / 4294967296) = r + y / 4294967296 := by
 have := hi.r0; have := hi.r1; have := h.y0; have := h.y1
 rw [wrapU]; omega
theorem p57 (x l y : Int) (hx : uOk x) (hl : uOk l) (hy : uOk y) (h : x < y) : PureOk PA GA XA (tbl [(64, s59)]) (itbl []) (a57 x l y) [] 43 [.int .u64 x, .int .u64 l, .int .u64 y] (.tup [.int .u64 ((x * 18446744073709551616 + l) / y), .int .u64 ((x * 18446744073709551616 + l) % y)], []) := by
 constructor
 rw [w57]
 have hy0 : 0 < y := by have := hx.1; omega
 refine ⟨fun h0 => absurd h0 (by simp; omega), fun _ => ⟨fun h0 => absurd (of_decide_eq_true h0) (by omega), fun _ => ⟨fun h0 => ⟨by omega, by omega, retIs_iff.2 ?_⟩, fun h0 => ?_⟩⟩⟩
 ·have h0 : x = 0 := by simpa using h0
  subst h0
  rw [Int.zero_mul, Int.zero_add, Int.tdiv_eq_ediv_of_nonneg hl.1, Int.tmod_eq_emod_of_nonneg hl.1, wrapU, Int.emod_eq_of_lt (Int.ediv_nonneg hl.1 hy.1) (Int.lt_of_le_of_lt (Int.ediv_le_self _ hl.1) hl.2)]
 obtain ⟨hs0, hs1, hY0, hY1⟩ := dvS_ok hy hy0
 have hx0 := hx.1
 have hl0 := hl.1
 have hl1 := hl.2
 refine ⟨dvS y, callIs_iff.2 (by rw [tb_hit]; simp only [s59]; rw [if_pos hy]; rfl), ?_⟩
 have ew : IntKind.u64.wrap (dvS y) = dvS y := by rw [wrapU]; omega
 have ew2 : IntKind.u64.wrap (64 - dvS y) = 64 - dvS y := by rw [wrapU]; omega
 have em : min (dvS y).toNat 64 = (dvS y).toNat := by omega
 have em1 : min (dvS y).toNat IntKind.u64.bits = (dvS y).toNat := em
 have em2 : min (64 - dvS y).toNat IntKind.u64.bits = (64 - dvS y).toNat := by show min _ 64 = _; omega
 have eY : IntKind.u64.wrap (y * 2 ^ (dvS y).toNat) = dvY y := by
  rw [wrapU]; exact Int.emod_eq_of_lt (by unfold dvY at hY0; omega) hY1
 have hp : (0 : Int) < 2 ^ (dvS y).toNat := by
  have : ((2 ^ (dvS y).toNat : Nat) : Int) = 2 ^ (dvS y).toNat := by rw [Int.natCast_pow]; rfl
  rw [← this]; have := Nat.two_pow_pos (dvS y).toNat; omega
 have hp2 : (0 : Int) < 2 ^ (64 - dvS y).toNat := by
  have : ((2 ^ (64 - dvS y).toNat : Nat) : Int) = 2 ^ (64 - dvS y).toNat := by rw [Int.natCast_pow]; rfl
  rw [← this]; have := Nat.two_pow_pos (64 - dvS y).toNat; omega
 have hpp : (2 : Int) ^ (dvS y).toNat * 2 ^ (64 - dvS y).toNat = 18446744073709551616 := by
  rw [← Int.pow_add, show (dvS y).toNat + (64 - dvS y).toNat = 64 by omega]; rfl
 have hxp : x * 2 ^ (dvS y).toNat < dvY y := Int.mul_lt_mul_of_pos_right h hp
 have hxp0 : 0 ≤ x * 2 ^ (dvS y).toNat := Int.mul_nonneg hx0 (Int.le_of_lt hp)
 have ex : IntKind.u64.wrap (x * 2 ^ (dvS y).toNat) = x * 2 ^ (dvS y).toNat := by rw [wrapU]; exact Int.emod_eq_of_lt hxp0 (by omega)
 have hb0 : 0 ≤ l / 2 ^ (64 - dvS y).toNat := Int.ediv_nonneg hl0 (Int.le_of_lt hp2)
 have hb1 : l / 2 ^ (64 - dvS y).toNat < 2 ^ (dvS y).toNat := (Int.ediv_lt_iff_lt_mul hp2).2 (by rw [hpp]; exact hl1)
 have eor := or_add hx0 (show (dvS y).toNat ≤ 63 by omega) hb0 hb1 (by omega)
 have eU : dvU x l y / 18446744073709551616 = x * 2 ^ (dvS y).toNat + l / 2 ^ (64 - dvS y).toNat := by
  unfold dvU
  rw [Int.add_mul, Int.mul_right_comm, Int.add_comm, Int.add_mul_ediv_right _ _ (by decide)]
  have : l * 2 ^ (dvS y).toNat / 18446744073709551616 = l / 2 ^ (64 - dvS y).toNat := by
   rw [← hpp, Int.mul_comm (2 ^ (dvS y).toNat), Int.mul_ediv_mul_of_pos_left _ _ hp]
  rw [this, Int.add_comm]
 have eV : dvU x l y % 18446744073709551616 = IntKind.u64.wrap (l * 2 ^ (dvS y).toNat) := by
  unfold dvU
  rw [wrapU, Int.add_mul, Int.mul_right_comm, Int.add_comm, Int.add_mul_emod_self_right]
 have hU0 : 0 ≤ dvU x l y / 18446744073709551616 := by rw [eU]; omega
 have hU1 : dvU x l y / 18446744073709551616 < dvY y := by
  refine (Int.ediv_lt_iff_lt_mul (by decide)).2 ?_
  have : (x * 18446744073709551616 + l) * 2 ^ (dvS y).toNat < (y * 18446744073709551616) * 2 ^ (dvS y).toNat := Int.mul_lt_mul_of_pos_right (by omega) hp
  rw [Int.mul_right_comm y] at this
  exact this
 have hV : uOk (dvU x l y % 18446744073709551616) := ⟨by omega, by omega⟩
 have hYu : uOk (dvY y) := ⟨by omega, hY1⟩
 have hUe : (x * 18446744073709551616 + l) * 2 ^ (dvS y).toNat = dvU x l y / 18446744073709551616 * 18446744073709551616 + dvU x l y % 18446744073709551616 / 4294967296 * 4294967296 + dvU x l y % 18446744073709551616 % 4294967296 := by
  show dvU x l y = _
  omega
 simp only [ew, ew2, em, em1, em2, eY, Int.fdiv_eq_ediv_of_nonneg _ (show (0 : Int) ≤ 4294967296 by decide), Int.fdiv_eq_ediv_of_nonneg _ (Int.le_of_lt hp2), Int.fdiv_eq_ediv_of_nonneg _ (Int.le_of_lt hp), and_mask hYu, ex, eor, ← eU, ← eV, and_mask hV]
 generalize dvU x l y / 18446744073709551616 = u at *
 generalize dvU x l y % 18446744073709551616 = v at *
 have hV0 := hV.1
 have hV1 := hV.2
 have h1 : DvOk u (v / 4294967296) (dvY y) := ⟨hY0, hY1, hU0, hU1, by omega, by omega⟩
 have r1 := dvR_ok h1
 have h2 : DvOk (dvR u (v / 4294967296) (dvY y)) (v % 4294967296) (dvY y) := ⟨hY0, hY1, r1.1, r1.2.1, by omega, by omega⟩
 have r2 := dvR_ok h2
 have W := dv_whole hp (show dvY y = y * 2 ^ (dvS y).toNat from rfl) hy0 h1 ⟨by omega, by omega⟩ hUe
 have q1a := dvQ_0 h1
 have q1b := dvQ_32 h1
 have q0a := dvQ_0 h2
 have q0b := dvQ_32 h2
 have ha : dvY y / 4294967296 ≠ 0 := by omega
 have f1 := dv_first h1
 have f2 := dv_first h2
 have e21 : IntKind.u64.wrap (IntKind.u64.wrap (IntKind.u64.wrap (u * 4294967296) + v / 4294967296) - IntKind.u64.wrap (dvQ u (v / 4294967296) (dvY y) * dvY y)) = dvR u (v / 4294967296) (dvY y) := by
  have := r1.2.2
  generalize dvQ u (v / 4294967296) (dvY y) * dvY y = m at *
  rw [wrapU, wrapU, wrapU, wrapU]; omega
 refine ⟨hs0, by decide, hs0, by omega, hs0, by decide, ha, ⟨⟨(u / (dvY y / 4294967296), u % (dvY y / 4294967296)), ⟨by rw [f1.1, f1.2]⟩, ⟨rfl⟩, dv_start h1, trivial⟩, fun p hp => ⟨fun c => ⟨fun d => ?_, fun d => ?_⟩, fun c => ⟨fun e => ⟨fun d => ?_, fun d => ?_⟩, fun e => ?_⟩⟩⟩, fun _ _ _ => ⟨ha, ?_⟩⟩
 ·have c := of_decide_eq_true c
  have d := of_decide_eq_true d
  rw [dv_w2 h1 hp] at d
  exact ⟨(), ⟨by rw [(dv_w1 h1 hp (.inl c)).1, dv_end h1 hp (.inl c) d]⟩, ⟨rfl⟩, trivial, trivial⟩
 ·have c := of_decide_eq_true c
  have d := of_decide_eq_false d
  rw [dv_w2 h1 hp] at d
  have w1 := dv_w1 h1 hp (.inl c)
  refine ⟨(p.1 - 1, p.2 + dvY y / 4294967296), ⟨by rw [w1.1, dv_w2 h1 hp]⟩, ⟨rfl⟩, dv_next h1 hp (.inl c) (by omega), ?_⟩
  show (p.1 - 1).toNat < p.1.toNat
  omega
 ·have c := of_decide_eq_false c
  have e := of_decide_eq_true e
  have d := of_decide_eq_true d
  have cm := dv_cmp (n := (v / 4294967296)) (y := dvY y) (dv_q h1 hp).1 (by omega) hp.r0 hp.r1 h1.n0 h1.n1
  rw [cm.1, cm.2] at e
  rw [dv_w2 h1 hp] at d
  exact ⟨(), ⟨by rw [(dv_w1 h1 hp (.inr e)).1, dv_end h1 hp (.inr e) d]⟩, ⟨rfl⟩, trivial, trivial⟩
 ·have c := of_decide_eq_false c
  have e := of_decide_eq_true e
  have d := of_decide_eq_false d
  have cm := dv_cmp (n := (v / 4294967296)) (y := dvY y) (dv_q h1 hp).1 (by omega) hp.r0 hp.r1 h1.n0 h1.n1
  rw [cm.1, cm.2] at e
  rw [dv_w2 h1 hp] at d
  have w1 := dv_w1 h1 hp (.inr e)
  refine ⟨(p.1 - 1, p.2 + dvY y / 4294967296), ⟨by rw [w1.1, dv_w2 h1 hp]⟩, ⟨rfl⟩, dv_next h1 hp (.inr e) (by omega), ?_⟩
  show (p.1 - 1).toNat < p.1.toNat
  omega
 ·have c := of_decide_eq_false c
  have e := of_decide_eq_false e
  have cm := dv_cmp (n := (v / 4294967296)) (y := dvY y) (dv_q h1 hp).1 (by omega) hp.r0 hp.r1 h1.n0 h1.n1
  rw [cm.1, cm.2] at e
  exact ⟨(), ⟨by rw [dv_done h1 hp.eq hp.lo (by omega)]⟩, ⟨rfl⟩, trivial, trivial⟩
 rw [e21]
 refine ⟨⟨⟨((dvR u (v / 4294967296) (dvY y)) / (dvY y / 4294967296), (dvR u (v / 4294967296) (dvY y)) % (dvY y / 4294967296)), ⟨by rw [f2.1, f2.2]⟩, ⟨rfl⟩, dv_start h2, trivial⟩, fun p hp => ⟨fun c => ⟨fun d => ?_, fun d => ?_⟩, fun c => ⟨fun e => ⟨fun d => ?_, fun d => ?_⟩, fun e => ?_⟩⟩⟩, fun _ _ _ => ⟨hs0, retIs_iff.2 ?_⟩⟩
 ·have c := of_decide_eq_true c
  have d := of_decide_eq_true d
  rw [dv_w2 h2 hp] at d
  exact ⟨(), ⟨by rw [(dv_w1 h2 hp (.inl c)).1, dv_end h2 hp (.inl c) d]⟩, ⟨rfl⟩, trivial, trivial⟩
 ·have c := of_decide_eq_true c
  have d := of_decide_eq_false d
  rw [dv_w2 h2 hp] at d
  have w1 := dv_w1 h2 hp (.inl c)
  refine ⟨(p.1 - 1, p.2 + dvY y / 4294967296), ⟨by rw [w1.1, dv_w2 h2 hp]⟩, ⟨rfl⟩, dv_next h2 hp (.inl c) (by omega), ?_⟩
  show (p.1 - 1).toNat < p.1.toNat
  omega
 ·have c := of_decide_eq_false c
  have e := of_decide_eq_true e
  have d := of_decide_eq_true d
  have cm := dv_cmp (n := (v % 4294967296)) (y := dvY y) (dv_q h2 hp).1 (by omega) hp.r0 hp.r1 h2.n0 h2.n1
  rw [cm.1, cm.2] at e
  rw [dv_w2 h2 hp] at d
  exact ⟨(), ⟨by rw [(dv_w1 h2 hp (.inr e)).1, dv_end h2 hp (.inr e) d]⟩, ⟨rfl⟩, trivial, trivial⟩
 ·have c := of_decide_eq_false c
  have e := of_decide_eq_true e
  have d := of_decide_eq_false d
  have cm := dv_cmp (n := (v % 4294967296)) (y := dvY y) (dv_q h2 hp).1 (by omega) hp.r0 hp.r1 h2.n0 h2.n1
  rw [cm.1, cm.2] at e
  rw [dv_w2 h2 hp] at d
  have w1 := dv_w1 h2 hp (.inr e)
  refine ⟨(p.1 - 1, p.2 + dvY y / 4294967296), ⟨by rw [w1.1, dv_w2 h2 hp]⟩, ⟨rfl⟩, dv_next h2 hp (.inr e) (by omega), ?_⟩
  show (p.1 - 1).toNat < p.1.toNat
  omega
 ·have c := of_decide_eq_false c
  have e := of_decide_eq_false e
  have cm := dv_cmp (n := (v % 4294967296)) (y := dvY y) (dv_q h2 hp).1 (by omega) hp.r0 hp.r1 h2.n0 h2.n1
  rw [cm.1, cm.2] at e
  exact ⟨(), ⟨by rw [dv_done h2 hp.eq hp.lo (by omega)]⟩, ⟨rfl⟩, trivial, trivial⟩
 have e0 : IntKind.u64.wrap (IntKind.u64.wrap (IntKind.u64.wrap (dvR u (v / 4294967296) (dvY y) * 4294967296) + v % 4294967296) - IntKind.u64.wrap (dvQ (dvR u (v / 4294967296) (dvY y)) (v % 4294967296) (dvY y) * dvY y)) = dvR (dvR u (v / 4294967296) (dvY y)) (v % 4294967296) (dvY y) := by
  have := r2.2.2
  generalize dvQ (dvR u (v / 4294967296) (dvY y)) (v % 4294967296) (dvY y) * dvY y = m at *
  rw [wrapU, wrapU, wrapU, wrapU]; omega
 have eq : IntKind.u64.wrap (IntKind.u64.wrap (dvQ u (v / 4294967296) (dvY y) * 4294967296) + dvQ (dvR u (v / 4294967296) (dvY y)) (v % 4294967296) (dvY y)) = dvQ u (v / 4294967296) (dvY y) * 4294967296 + dvQ (dvR u (v / 4294967296) (dvY y)) (v % 4294967296) (dvY y) := by
  rw [wrapU, wrapU]; omega
 rw [e0, eq, W.1, W.2]
theorem o57 : SpecOk PA GA 43 s57 := spec_of (X := XA) (m := []) mixedA (tbl_cons o59 tbl_nil) itbl_nil fun args r h => by
 unfold s57 at h
 split at h
 case h_2 => cases h
 rename_i x l y
 split at h
 case isFalse => cases h
 rename_i hc
 injection h with h; subst h
 exact ⟨_, p57 x l y hc.1 hc.2.1 hc.2.2.1 hc.2.2.2⟩
end Go.Abs
namespace Go.Abs
open Go.Proofs Go.Proofs.K17 Go.Proofs.D17 Go.RowKit
theorem agg51 : aggA PA 42 = some true := by kernel_rfl
theorem size51 : sizeA PA 42 = some 6 := by kernel_rfl
theorem len_ces (l : List CeI) : (cesL l).length = l.length := List.length_map ..
theorem take_ce {l : List CeI} {i : Nat} (h : i < l.length) : takeAt PA 42 (cesL l) i 0 = some (.agg (ceC l[i])) := by
 unfold takeAt
 rw [show (cesL l)[i]? = some (ceA l[i]) by unfold cesL; rw [List.getElem?_map, List.getElem?_eq_getElem h]; rfl]
 simp only [agg51, size51, takeA]
 rfl
theorem w64_mod (q : Int) : (wrap64 q - q) % 18446744073709551616 = 0 := by unfold wrap64; omega
theorem w64_congr {x y : Int} (h : (x - y) % 18446744073709551616 = 0) : wrap64 x = wrap64 y := by unfold wrap64; omega
theorem sg_mod (x : Int) : (sg x - x) % 340282366920938463463374607431768211456 = 0 := by
 have h1 := w64_mod (x / 18446744073709551616)
 unfold sg wv whi wlo
 generalize wrap64 (x / 18446744073709551616) = q at *
 omega
theorem whi_congr {x y : Int} (h : (x - y) % 340282366920938463463374607431768211456 = 0) : whi x = whi y := by
 unfold whi
 exact w64_congr (by omega)
theorem wlo_congr {x y : Int} (h : (x - y) % 340282366920938463463374607431768211456 = 0) : wlo x = wlo y := by unfold wlo; omega
theorem wideA_congr {x y : Int} (h : (x - y) % 340282366920938463463374607431768211456 = 0) : wideA x = wideA y := by
 rw [wideA_st, wideA_st, whi_congr h, wlo_congr h]
theorem sg_congr {x y : Int} (h : (x - y) % 340282366920938463463374607431768211456 = 0) : sg x = sg y := by unfold sg; rw [whi_congr h, wlo_congr h]
theorem wv_sg (x : Int) : wv (whi x) (wlo x) = sg x := rfl
theorem tdivN {a b : Int} (h : 0 ≤ a) : a.tdiv b = a / b := Int.tdiv_eq_ediv_of_nonneg h
theorem iwN {x : Int} (h : iOk x) : IntKind.i64.wrap x = x := by
 rw [iw]; unfold wrap64; unfold iOk at h; omega
theorem weight_pre {h a : Int} (h1 : 1 ≤ h) (h2 : h ≤ 1073741824) (_h3 : 0 ≤ a) : 0 ≤ (2 * h - a % h) * 2147483648 / h ∧ (2 * h - a % h) * 2147483648 / h ≤ 4294967296 := by
 have r0 := Int.emod_nonneg a (show h ≠ 0 by omega)
 have r1 := Int.emod_lt_of_pos a (show 0 < h by omega)
 refine ⟨Int.ediv_nonneg (by omega) (by omega), ?_⟩
 have : (2 * h - a % h) * 2147483648 / h < 4294967297 := (Int.ediv_lt_iff_lt_mul (by omega)).2 (by omega)
 omega
theorem weight_ok (h a : Int) : 0 ≤ weightP h a ∧ weightP h a ≤ 4294967296 := by
 unfold weightP
 split
 ·omega
 ·rename_i hc
  have hc' : 1 ≤ h ∧ h ≤ 1073741824 ∧ 0 ≤ a := by omega
  obtain ⟨p0, p1⟩ := weight_pre hc'.1 hc'.2.1 hc'.2.2
  have hp : (0 : Int) < 2 ^ (a / h).toNat := by
   have : ((2 ^ (a / h).toNat : Nat) : Int) = 2 ^ (a / h).toNat := by rw [Int.natCast_pow]; rfl
   rw [← this]; have := Nat.two_pow_pos (a / h).toNat; omega
  exact ⟨Int.ediv_nonneg p0 (Int.le_of_lt hp), Int.le_trans (Int.ediv_le_self _ p0) p1⟩
theorem weight_steps {h a : Int} (h1 : 1 ≤ h) (h2 : h ≤ 1073741824) (h3 : 0 ≤ a) (h4 : iOk a) :
  IntKind.i64.wrap (a.tdiv h) = a / h ∧ IntKind.i64.wrap ((IntKind.i64.wrap (IntKind.i64.wrap (IntKind.i64.wrap (2 * h) - a.tmod h) * 2147483648)).tdiv h) = (2 * h - a % h) * 2147483648 / h := by
 have r0 := Int.emod_nonneg a (show h ≠ 0 by omega)
 have r1 := Int.emod_lt_of_pos a (show 0 < h by omega)
 have p := weight_pre h1 h2 h3
 have q0 : 0 ≤ a / h := Int.ediv_nonneg h3 (by omega)
 have q1 : a / h ≤ a := Int.ediv_le_self _ h3
 unfold iOk at h4
 refine ⟨by rw [tdivN h3, iwN ⟨by omega, by omega⟩], ?_⟩
 rw [Int.tmod_eq_emod_of_nonneg h3, iwN (x := 2 * h) ⟨by omega, by omega⟩, iwN (x := 2 * h - a % h) ⟨by omega, by omega⟩, iwN (x := (2 * h - a % h) * 2147483648) ⟨by omega, by omega⟩, tdivN (by omega), iwN ⟨by omega, by omega⟩]
theorem weight0 {h a : Int} (hc : h < 1 ∨ 1073741824 < h ∨ a < 0 ∨ 32 ≤ a / h) : weightP h a = 0 := by unfold weightP; rw [if_pos hc]
theorem weight1 {h a : Int} (h1 : 1 ≤ h) (h2 : h ≤ 1073741824) (h3 : 0 ≤ a) (h4 : a / h < 32) : weightP h a = (2 * h - a % h) * 2147483648 / h / 2 ^ (a / h).toNat := by unfold weightP; rw [if_neg (by omega)]
theorem p8 (h a : Int) (ha : iOk a) : PureOk PA GA XN (tbl []) (itbl []) nAn [] 18 [.int .i64 h, .int .i64 a] (.int .i64 (weightP h a), []) := by
 constructor
 rw [w8]
 refine ⟨fun c => retIs_iff.2 ?_, fun c => ⟨fun d => retIs_iff.2 ?_, fun d => ⟨fun e => retIs_iff.2 ?_, fun e => ?_⟩⟩⟩
 ·have c := of_decide_eq_true c
  rw [weight0 (.inl c)]
 ·have d := of_decide_eq_true d
  rw [weight0 (.inr (.inl d))]
 ·have e := of_decide_eq_true e
  rw [weight0 (.inr (.inr (.inl e)))]
 have c := of_decide_eq_false c
 have d := of_decide_eq_false d
 have e := of_decide_eq_false e
 have W := weight_steps (h := h) (a := a) (by omega) (by omega) (by omega) ha
 rw [W.1, W.2]
 have q0 : 0 ≤ a / h := Int.ediv_nonneg (by omega) (by omega)
 refine ⟨by omega, fun g => retIs_iff.2 ?_, fun g => ⟨by omega, by decide, by omega, by omega, q0, retIs_iff.2 ?_⟩⟩
 ·have g := of_decide_eq_true g
  rw [weight0 (.inr (.inr (.inr g)))]
 ·have g := of_decide_eq_false g
  rw [weight1 (by omega) (by omega) (by omega) (by omega), show min (a / h).toNat 64 = (a / h).toNat by omega, Int.fdiv_eq_ediv_of_nonneg]
  have : ((2 ^ (a / h).toNat : Nat) : Int) = 2 ^ (a / h).toNat := by rw [Int.natCast_pow]; rfl
  rw [← this]; exact Int.natCast_nonneg _
theorem p50 (t e : Int) : PureOk PA GA XN (tbl []) (itbl []) nAn [] 107 [.int .i64 t, .int .i64 e] (.int .i64 (ageP t e), []) := by
 constructor
 rw [w50, iw]
 refine ⟨fun c => ⟨fun d => retIs_iff.2 ?_, fun d => retIs_iff.2 ?_⟩, fun c => retIs_iff.2 ?_⟩
 ·have c := of_decide_eq_true c
  have d := of_decide_eq_true d
  unfold ageP; rw [if_pos ⟨c, d⟩]
 ·have d := of_decide_eq_false d
  unfold ageP; rw [if_neg (fun h => d h.2)]
 ·have c := of_decide_eq_false c
  unfold ageP; rw [if_neg (fun h => c h.1)]
theorem age_ok (t e : Int) : iOk (ageP t e) := by
 unfold ageP iOk
 split
 ·have := w64_range (t - e); omega
 ·omega
theorem p51 (kind h l d : Int) (hw : wOk h l) (hd : iOk d) : PureOk PA GA XN (tbl [(14, s55)]) (itbl []) nAn [] 108 [.int .i64 kind, .agg [.int .i64 h, .int .u64 l], .int .i64 d] (numP kind (wv h l) d, []) := by
 constructor
 rw [w51]
 refine ⟨_, _, callIs_iff.2 (by rw [tb_hit]; simp only [s55]; rw [if_pos ⟨hw, hd⟩]), fun b => ⟨fun c => retIs_iff.2 ?_, fun c => retIs_iff.2 ?_⟩, fun b => retIs_iff.2 ?_⟩
 ·unfold numP; rw [if_pos b, if_neg (by simpa using c)]
 ·have c : kind = 2 := by simpa using c
  subst c
  unfold numP; rw [if_pos b, if_pos rfl]
 ·unfold numP; rw [b]; rfl
theorem o8 : SpecOk PA GA 18 s8 := spec_of (X := XN) (m := []) mixedA tbl_nil itbl_nil fun args r h => by
 unfold s8 at h
 split at h
 case h_2 => cases h
 split at h
 case isFalse => cases h
 rename_i hc
 injection h with h; subst h
 exact ⟨_, p8 _ _ hc.2⟩
theorem o50 : SpecOk PA GA 107 s50 := spec_of (X := XN) (m := []) mixedA tbl_nil itbl_nil fun args r h => by
 unfold s50 at h
 split at h
 case h_2 => cases h
 injection h with h; subst h
 exact ⟨_, p50 _ _⟩
theorem o51 : SpecOk PA GA 108 s51 := spec_of (X := XN) (m := []) mixedA (tbl_cons (o55 o57) tbl_nil) itbl_nil fun args r h => by
 unfold s51 at h
 split at h
 case h_2 => cases h
 split at h
 case isFalse => cases h
 rename_i hc
 injection h with h; subst h
 exact ⟨_, p51 _ _ _ _ hc.1 hc.2⟩
theorem p43 (op : List UInt8) (param kind t n : Int) (l : List CeI) : PureOk PA GA XN (tbl []) (itbl []) nAn [] 103 [.agg [], .agg (qC op param kind t n l)] (valP .cnt op param kind t n l, []) := by
 constructor
 rw [w43]
 exact retIs_iff.2 rfl
theorem sumP_succ {op : List UInt8} {param t : Int} {l : List CeI} {i : Nat} (h : i < l.length) : sumP op param t (l.take (i + 1)) = sumP op param t (l.take i) + partP op param t l[i] := by
 unfold sumP
 rw [List.take_succ_eq_append_getElem h, List.foldl_append]; rfl
theorem add_sg {x y : Int} : wideA (sg x + y) = .agg [.int .i64 (whi (x + y)), .int .u64 (wlo (x + y))] := by
 rw [← wideA_st]
 exact wideA_congr (by have := sg_mod x; omega)
theorem add_sg2 {x y : Int} : wideA (sg x + sg y) = .agg [.int .i64 (whi (x + y)), .int .u64 (wlo (x + y))] := by
 rw [← wideA_st]
 exact wideA_congr (by have := sg_mod x; have := sg_mod y; omega)
theorem sgm (x y : Int) : (sg x * y - x * y) % 340282366920938463463374607431768211456 = 0 := by
 have h := sg_mod x
 rw [← Int.sub_mul]
 obtain ⟨k, hk⟩ := Int.dvd_of_emod_eq_zero h
 rw [hk, Int.mul_assoc, Int.mul_emod_right]
abbrev T46 : List (FuncId × Spec) := [(107, s50), (18, s8), (45, s49), (16, s47), (108, s51)]
theorem t8 {h a : Int} (h1 : iOk h) (h2 : iOk a) : tbl T46 18 [.int .i64 h, .int .i64 a] = some (.int .i64 (weightP h a), []) := by
 rw [tb_miss (by decide), tb_hit]; simp only [s8]; rw [if_pos ⟨h1, h2⟩]
theorem t49 {h l n : Int} (h1 : wOk h l) (h2 : iOk n) : tbl T46 45 [.agg [.int .i64 h, .int .u64 l], .int .i64 n] = some (.agg [.int .i64 (whi (wv h l * n)), .int .u64 (wlo (wv h l * n))], []) := by
 rw [tb_miss (by decide), tb_miss (by decide), tb_hit]; simp only [s49]; rw [if_pos ⟨h1, h2⟩, wideA_st]
theorem t47 {h l h' l' : Int} (h1 : wOk h l) (h2 : wOk h' l') : tbl T46 16 [.agg [.int .i64 h, .int .u64 l], .agg [.int .i64 h', .int .u64 l']] = some (wideA (wv h l + wv h' l'), []) := by
 rw [tb_miss (by decide), tb_miss (by decide), tb_miss (by decide), tb_hit]; simp only [s47, sW2]; rw [if_pos ⟨h1, h2⟩]
theorem t51 {k h l d : Int} (h1 : wOk h l) (h2 : iOk d) : tbl T46 108 [.int .i64 k, .agg [.int .i64 h, .int .u64 l], .int .i64 d] = some (numP k (wv h l) d, []) := by
 rw [tb_miss (by decide), tb_miss (by decide), tb_miss (by decide), tb_miss (by decide), tb_hit]; simp only [s51]; rw [if_pos ⟨h1, h2⟩]
theorem numP_form (k x d : Int) : ∃ a n s, numP k x d = .agg [.int .i64 a, .int .i64 n, .str s] := by
 unfold numP; split <;> exact ⟨_, _, _, rfl⟩
theorem whi0 : whi 0 = 0 := by unfold whi wrap64; decide
theorem p46 (op : List UInt8) (param kind t n : Int) (l : List CeI) (hl : cesOk l) (hp : iOk param) (hn : iOk n) : PureOk PA GA XN (tbl [(107, s50), (18, s8), (45, s49), (16, s47), (108, s51)]) (itbl []) (a46 op param kind t n l) [] 106 [.agg [], .agg (qC op param kind t n l)] (valP .sum op param kind t n l, []) := by
 constructor
 rw [w46]
 refine ⟨⟨0, ⟨by rw [len_ces]; rfl⟩, ⟨by rw [List.take_zero, show sumP op param t [] = 0 from rfl, whi0, show wlo 0 = 0 from rfl]⟩, Nat.zero_le _, trivial⟩, fun i hi => ⟨fun lt => ?_, fun ge => ?_⟩⟩
 ·have lt := of_decide_eq_true lt
  have hil : i < l.length := by omega
  have hlen := hl.1
  have hc := hl.2 _ (List.getElem_mem hil)
  refine ⟨⟨by omega, by rw [len_ces]; omega⟩, _, _, _, _, _, _, by rw [Int.toNat_natCast]; exact take_ce hil, fun d => ?_, fun d => ?_⟩
  ·have d : op = bDecay := eq_of_beq d
   have ww := weight_ok param (ageP t l[i].ev)
   refine ⟨_, callIs_iff.2 rfl, _, callIs_iff.2 (t8 hp (age_ok _ _)), _, _, callIs_iff.2 (t49 hc.1 ⟨by omega, by omega⟩), _, _, callIs_iff.2 (by rw [t47 (w_ok _) (w_ok _), wv_sg, wv_sg, add_sg2]), i + 1, ⟨by rw [wrapN (by omega)]⟩, ⟨?_⟩, hil, by omega⟩
   have e : partP op param t l[i] = wv l[i].st.h l[i].st.l * weightP param (ageP t l[i].ev) := by unfold partP; rw [if_pos d]
   rw [sumP_succ hil, e]
  ·have d : op ≠ bDecay := fun e => by subst e; exact absurd d (by decide)
   refine ⟨_, _, callIs_iff.2 (by rw [t47 (w_ok _) hc.1, wv_sg, add_sg]), i + 1, ⟨by rw [wrapN (by omega)]⟩, ⟨?_⟩, hil, by omega⟩
   have e : partP op param t l[i] = wv l[i].st.h l[i].st.l := by unfold partP; rw [if_neg d]
   rw [sumP_succ hil, e]
 ·have ge := of_decide_eq_false ge
  have hall : l.take i = l := List.take_of_length_le (by omega)
  rw [hall]
  have h1 : iOk 1 := by unfold iOk; omega
  have h6 : iOk 1000000 := by unfold iOk; omega
  have h32 : iOk 4294967296 := by unfold iOk; omega
  show _ ∧ _
  refine ⟨fun c => ?_, fun c => ⟨fun k => ⟨_, _, callIs_iff.2 (t49 (w_ok _) h6), fun m => ?_, fun m => ?_⟩, fun k => ⟨fun m => ?_, fun m => ?_⟩⟩⟩
  ·have c : op = bSum := eq_of_beq c
   obtain ⟨a, b, s, e⟩ := numP_form kind (sg (sumP op param t l)) 1
   refine ⟨a, b, s, callIs_iff.2 (by rw [t51 (w_ok _) h1, wv_sg, e]), retIs_iff.2 ?_⟩
   rw [← e]; show _ = (addV' op param kind t n l, _); unfold addV'; rw [if_pos c]
  ·have c : op ≠ bSum := fun e => by subst e; exact absurd c (by decide)
   have k : kind = 2 := eq_of_beq k
   have m : op = bMean := eq_of_beq m
   obtain ⟨a, b, s, e⟩ := numP_form 3 (sg (sumP op param t l * 1000000)) n
   refine ⟨a, b, s, callIs_iff.2 (by rw [t51 (w_ok _) hn, wv_sg, wv_sg, ← e]; congr 3; exact sg_congr (sgm _ _)), retIs_iff.2 ?_⟩
   rw [← e]; show _ = (addV' op param kind t n l, _); unfold addV'; rw [if_neg c, if_pos m, if_pos k]
  ·have c : op ≠ bSum := fun e => by subst e; exact absurd c (by decide)
   have k : kind = 2 := eq_of_beq k
   have m : op ≠ bMean := fun e => by subst e; exact absurd m (by decide)
   obtain ⟨a, b, s, e⟩ := numP_form 3 (sg (sumP op param t l * 1000000)) 4294967296
   refine ⟨a, b, s, callIs_iff.2 (by rw [t51 (w_ok _) h32, wv_sg, wv_sg, ← e]; congr 3; exact sg_congr (sgm _ _)), retIs_iff.2 ?_⟩
   rw [← e]; show _ = (addV' op param kind t n l, _); unfold addV'; rw [if_neg c, if_neg m, if_pos k]
  ·have c : op ≠ bSum := fun e => by subst e; exact absurd c (by decide)
   have k : ¬ kind = 2 := fun e => by subst e; exact absurd k (by decide)
   have m : op = bMean := eq_of_beq m
   obtain ⟨a, b, s, e⟩ := numP_form 3 (sg (sumP op param t l)) n
   refine ⟨a, b, s, callIs_iff.2 (by rw [t51 (w_ok _) hn, wv_sg, e]), retIs_iff.2 ?_⟩
   rw [← e]; show _ = (addV' op param kind t n l, _); unfold addV'; rw [if_neg c, if_pos m, if_neg k]
  ·have c : op ≠ bSum := fun e => by subst e; exact absurd c (by decide)
   have k : ¬ kind = 2 := fun e => by subst e; exact absurd k (by decide)
   have m : op ≠ bMean := fun e => by subst e; exact absurd m (by decide)
   obtain ⟨a, b, s, e⟩ := numP_form 3 (sg (sumP op param t l)) 4294967296
   refine ⟨a, b, s, callIs_iff.2 (by rw [t51 (w_ok _) h32, wv_sg, e]), retIs_iff.2 ?_⟩
   rw [← e]; show _ = (addV' op param kind t n l, _); unfold addV'; rw [if_neg c, if_neg m, if_neg k]
theorem mrgB_succ {l : List CeI} {i : Nat} (h : i < l.length) : mrgB (l.take (i + 1)) = normB (mrgB (l.take i) ++ l[i].st.bks) := by
 unfold mrgB
 rw [List.take_succ_eq_append_getElem h, List.foldl_append]; rfl
theorem mrgB_ok {l : List CeI} (hl : cesOk l) : ∀ {i : Nat}, i ≤ l.length → WfB (mrgB (l.take i)) ∧ (mrgB (l.take i)).length ≤ i * 100000
 | 0, _ => ⟨nil_wf, Nat.zero_le _⟩
 | i + 1, hi => by
  obtain ⟨h1, h2⟩ := mrgB_ok hl (i := i) (by omega)
  have hil : i < l.length := by omega
  have hc := hl.2 _ (List.getElem_mem hil)
  rw [mrgB_succ hil]
  have hw : WfB (mrgB (l.take i) ++ l[i].st.bks) := fun y hy => by
   rcases List.mem_append.1 hy with h | h
   ·exact h1 y h
   ·exact hc.2.1 y h
  refine ⟨(norm_ok hw).2.1, Nat.le_trans (normB_len _) ?_⟩
  have := hc.2.2.2.2
  rw [List.length_append]; omega
theorem smp_end (param kind : Int) (l : List CeI) {q : Bks} (hq : q = mrgB l) : ∃ n b, some (AV.tup [AV.int IntKind.i64 ((quantile q param).getD 0), AV.bool (quantile q param).isSome], ([] : List (Nat × TypeId))) = some (AV.tup [AV.int IntKind.i64 n, AV.bool b], []) ∧
  (b = true → ((kind == 2) = true → RetIs (AV.agg [AV.int IntKind.i64 2, AV.int IntKind.i64 n, AV.str []]) [] (smpV param kind l, [])) ∧ ((kind == 2) = false → RetIs (AV.agg [AV.int IntKind.i64 3, AV.int IntKind.i64 n, AV.str []]) [] (smpV param kind l, []))) ∧
  (b = false → RetIs (AV.agg [AV.int IntKind.i64 0, AV.int IntKind.i64 0, AV.str []]) [] (smpV param kind l, [])) := by
 subst hq
 refine ⟨_, _, rfl, fun hb => ⟨fun k => retIs_iff.2 ?_, fun k => retIs_iff.2 ?_⟩, fun hb => retIs_iff.2 ?_⟩
 ·have k : kind = 2 := eq_of_beq k
  unfold smpV
  cases hq : quantile (mrgB l) param with
  | none => rw [hq] at hb; cases hb
  | some n => simp only [if_pos k]; rfl
 ·have k : ¬ kind = 2 := fun e => by subst e; exact absurd k (by decide)
  unfold smpV
  cases hq : quantile (mrgB l) param with
  | none => rw [hq] at hb; cases hb
  | some n => simp only [if_neg k]; rfl
 ·unfold smpV
  cases hq : quantile (mrgB l) param with
  | none => rfl
  | some n => rw [hq] at hb; cases hb
theorem p65 (op : List UInt8) (param kind t n : Int) (l : List CeI) (hl : cesOk l) : PureOk PA GA XN (tbl [(112, s66), (114, s68)]) (itbl []) (a65 op param kind t n l) [] 111 [.agg [], .agg (qC op param kind t n l)] (valP .smp op param kind t n l, []) := by
 constructor
 rw [w65]
 have hlen := hl.1
 refine ⟨fun lt => ?_, fun ge => ?_⟩
 ·have lt := of_decide_eq_true lt
  rw [len_ces] at lt
  have h0 : 0 < l.length := by omega
  have hc := hl.2 _ (List.getElem_mem h0)
  refine ⟨⟨by omega, by rw [len_ces]; omega⟩, _, _, _, _, _, _, take_ce h0, bksL (mrgB (l.take 1)), callIs_iff.2 ?_, ⟨(1, l[0]), ⟨by rw [len_ces]; rfl⟩, ⟨rfl⟩, ⟨Nat.le_refl _, h0, List.getElem?_eq_getElem h0⟩, trivial⟩, fun p hp => ⟨fun lt => ?_, fun ge => ?_⟩⟩
  ·rw [tb_hit]; simp only [s66, show unL unBk [] = some [] from rfl, show unL unBk (bksL l[0].st.bks) = some l[0].st.bks from unL_map unBk_ok _]
   have e : mrgB (l.take 1) = normB ([] ++ l[0].st.bks) := by rw [mrgB_succ h0]; rfl
   have := hc.2.2.2.2
   rw [if_pos ⟨.inr trivial, .inl trivial, nil_wf, hc.2.1, by rw [List.length_nil]; omega⟩, e]
  ·have lt := of_decide_eq_true lt
   have hil : p.1 < l.length := by omega
   have hc := hl.2 _ (List.getElem_mem hil)
   have hm := mrgB_ok hl (i := p.1) (by omega)
   refine ⟨⟨by omega, by rw [len_ces]; omega⟩, _, _, _, _, _, _, by rw [Int.toNat_natCast]; exact take_ce hil, bksL (mrgB (l.take (p.1 + 1))), callIs_iff.2 ?_, (p.1 + 1, p.2), ⟨by rw [wrapN (by omega)]⟩, ⟨rfl⟩, ⟨by omega, hil, hp.2.2⟩, by show _ - (p.1 + 1) < _; omega⟩
   rw [tb_hit]; simp only [s66, show unL unBk (bksL (mrgB (l.take p.1))) = some (mrgB (l.take p.1)) from unL_map unBk_ok _, show unL unBk (bksL l[p.1].st.bks) = some l[p.1].st.bks from unL_map unBk_ok _]
   have := hc.2.2.2.2
   have := hm.2
   rw [if_pos ⟨.inl trivial, .inl trivial, hm.1, hc.2.1, by omega⟩, mrgB_succ hil]
  ·have ge := of_decide_eq_false ge
   have hall : l.take p.1 = l := List.take_of_length_le (by omega)
   rw [hall]
   obtain ⟨n, b, e, h⟩ := smp_end param kind l rfl
   refine ⟨n, b, callIs_iff.2 ?_, h⟩
   rw [tb_miss (by decide), tb_hit, ← e]; simp only [s68, show unL unBk (bksL (mrgB l)) = some (mrgB l) from unL_map unBk_ok _]
   have := (mrgB_ok hl (i := l.length) (Nat.le_refl _)).2
   rw [List.take_length] at this
   rw [if_pos ⟨.inl trivial, by omega⟩]
 ·have ge := of_decide_eq_false ge
  rw [len_ces] at ge
  obtain ⟨n, b, e, h⟩ := smp_end param kind l (q := []) (by
   have : l = [] := List.length_eq_zero_iff.1 (by omega)
   subst this; rfl)
  exact ⟨n, b, callIs_iff.2 e, h⟩
theorem itsOf_succ {l : List CeI} {i : Nat} {c : CeI} (h : l[i]? = some c) : itsOf (l.take (i + 1)) = itsOf (l.take i) ++ c.st.its := by
 obtain ⟨hi, e⟩ := List.getElem?_eq_some_iff.1 h
 unfold itsOf
 rw [List.take_succ_eq_append_getElem hi, List.flatMap_append, e]
 simp
theorem best_step {op : List UInt8} {p : List ItI} {m : List ItI} {j : Nat} (h : j < m.length) {b : Bst} (hb : bestP op (p ++ m.take j) = b) : bestP op (p ++ m.take (j + 1)) = bstep op b m[j] := by
 subst hb
 unfold bestP
 rw [List.take_succ_eq_append_getElem h, ← List.append_assoc, List.foldl_append (l := p ++ m.take j)]; rfl
theorem bstep_0 {op : List UInt8} {b : Bst} {x : ItI} (h : x.c ≤ 0) : bstep op b x = b := by unfold bstep; rw [if_pos h]
theorem bstep_1 {op : List UInt8} {b : Bst} {x : ItI} (h : ¬ x.c ≤ 0) (h2 : b.f = false ∨ op = bLast ∨ (op = bMin ∧ cmpV x.k x.n x.s b.k b.n b.s < 0) ∨ (op = bMax ∧ 0 < cmpV x.k x.n x.s b.k b.n b.s)) : bstep op b x = ⟨x.k, x.n, x.s, true⟩ := by
 unfold bstep; rw [if_neg h, if_pos h2]
theorem bstep_2 {op : List UInt8} {b : Bst} {x : ItI} (h2 : ¬ (b.f = false ∨ op = bLast ∨ (op = bMin ∧ cmpV x.k x.n x.s b.k b.n b.s < 0) ∨ (op = bMax ∧ 0 < cmpV x.k x.n x.s b.k b.n b.s))) : bstep op b x = b := by
 unfold bstep; split
 ·rfl
 ·first | rfl | rw [if_neg h2]
theorem its_ok {l : List CeI} (h : cesOk l) : ∀ x ∈ itsOf l, itW x := fun x hx => by
 obtain ⟨c, hc, hx⟩ := List.mem_flatMap.1 hx
 exact (h.2 c hc).2.2.1 x hx
theorem its_len_aux : ∀ (l : List CeI), (∀ c ∈ l, c.st.its.length ≤ 100000) → (itsOf l).length ≤ l.length * 100000
 | [], _ => Nat.le_refl _
 | c :: l, h => by
  have h1 := its_len_aux l fun d hd => h d (by simp [hd])
  have h2 := h c (by simp)
  have e : (itsOf (c :: l)).length = c.st.its.length + (itsOf l).length := by unfold itsOf; rw [List.flatMap_cons, List.length_append]
  rw [e, List.length_cons]; omega
theorem its_len {l : List CeI} (h : cesOk l) : (itsOf l).length ≤ 100000000 := by
 have h1 := its_len_aux l fun c hc => (h.2 c hc).2.2.2.1
 have := h.1
 omega
theorem p101 (f : Bool) (op : List UInt8) (param kind t n : Int) (l : List CeI) (hl : cesOk l) : PureOk PA GA XN (tbl [(149, s104), (35, s105)]) (itbl []) (a101 f op param kind t n l) [] 146 [.agg [.bool f], .agg (qC op param kind t n l)] (valP (.keep f) op param kind t n l, []) := by
 constructor
 rw [w101]
 have hlen := hl.1
 refine ⟨fun c => ?_, fun c => ?_⟩
 ·have c : op = bDistinct := eq_of_beq c
  refine ⟨(distV (itsOf l) : Nat), callIs_iff.2 ?_, retIs_iff.2 ?_⟩
  ·rw [tb_hit]; simp only [s104, show unL unCe (cesL l) = some l from unL_map unCe_ok l]
   rw [if_pos ⟨.inl trivial, its_ok hl, Nat.le_trans (its_len hl) (by omega), by omega⟩]
  ·show _ = (keepV op l, _); unfold keepV; rw [if_pos c]
 have hd : op ≠ bDistinct := fun x => by subst x; exact absurd c (by decide)
 refine ⟨⟨(0, ⟨0, 0, [], false⟩), ⟨by rw [len_ces]; rfl⟩, ⟨rfl⟩, ⟨Nat.zero_le _, rfl⟩, trivial⟩, fun x hx => ⟨fun fx => ⟨fun lt => ?_, fun ge => ?_⟩, fun fx => ⟨fun lt => ?_, fun ge => ?_⟩⟩⟩
 ·have lt := of_decide_eq_true lt
  have hil : x.1 < l.length := by omega
  have hcl : ∀ c, ∀ {i : Nat}, l[i]? = some c → c.st.its.length ≤ 100000 := fun c i h => (hl.2 c (List.mem_of_getElem? h)).2.2.2.1
  refine ⟨⟨by omega, by rw [len_ces]; omega⟩, _, _, _, _, _, _, by rw [Int.toNat_natCast]; exact take_ce hil, ⟨⟨x.1, l[x.1], 0, x.2⟩, ⟨by rw [len_its, fx]; rfl⟩, ⟨rfl⟩, ⟨List.getElem?_eq_getElem hil, Nat.zero_le _, by rw [List.take_zero, List.append_nil]; exact hx.2⟩, rfl⟩, fun y hy hk => ⟨fun fy => ⟨fun lt2 => ?_, fun ge2 => ?_⟩, fun fy => ⟨fun lt2 => ?_, fun ge2 => ?_⟩⟩⟩
  ·have lt2 := of_decide_eq_true lt2
   have hj : y.j < y.c.st.its.length := by omega
   have hjl := hcl y.c hy.1
   refine ⟨⟨by omega, by rw [len_its]; omega⟩, _, _, _, _, _, _, by rw [Int.toNat_natCast]; exact take_it hj, fun c0 => ?_, fun c0 => ⟨_, callIs_iff.2 rfl, fun cl => ?_, fun cl => ⟨fun cm => ⟨fun c9 => ?_, fun c9 => ⟨fun cx => ⟨fun c8 => ?_, fun c8 => ?_⟩, fun cx => ?_⟩⟩, fun cm => ⟨fun cx => ⟨fun c8 => ?_, fun c8 => ?_⟩, fun cx => ?_⟩⟩⟩⟩
   ·have c0 := of_decide_eq_true c0
    exact ⟨⟨y.i, y.c, y.j + 1, y.b⟩, ⟨by rw [wrapN (by omega), fy]⟩, ⟨rfl⟩, ⟨hy.1, hj, by rw [best_step hj hy.2.2]; exact bstep_0 c0⟩, hk, by show y.c.st.its.length - (y.j + 1) < y.c.st.its.length - y.j; omega⟩
   ·have c0 := of_decide_eq_false c0
    have cl : op = bLast := eq_of_beq cl
    exact ⟨⟨y.i, y.c, y.j + 1, ⟨y.c.st.its[y.j].k, y.c.st.its[y.j].n, y.c.st.its[y.j].s, true⟩⟩, ⟨by rw [wrapN (by omega)]⟩, ⟨rfl⟩, ⟨hy.1, hj, by rw [best_step hj hy.2.2]; exact bstep_1 c0 (.inr (.inl cl))⟩, hk, by show y.c.st.its.length - (y.j + 1) < y.c.st.its.length - y.j; omega⟩
   ·have c0 := of_decide_eq_false c0
    have cl : op ≠ bLast := fun x => by subst x; exact absurd cl (by decide)
    have cm : op = bMin := eq_of_beq cm
    have c9 := of_decide_eq_true c9
    exact ⟨⟨y.i, y.c, y.j + 1, ⟨y.c.st.its[y.j].k, y.c.st.its[y.j].n, y.c.st.its[y.j].s, true⟩⟩, ⟨by rw [wrapN (by omega)]⟩, ⟨rfl⟩, ⟨hy.1, hj, by rw [best_step hj hy.2.2]; exact bstep_1 c0 (.inr (.inr (.inl ⟨cm, c9⟩)))⟩, hk, by show y.c.st.its.length - (y.j + 1) < y.c.st.its.length - y.j; omega⟩
   ·have c0 := of_decide_eq_false c0
    have cl : op ≠ bLast := fun x => by subst x; exact absurd cl (by decide)
    have cm : op = bMin := eq_of_beq cm
    have c9 := of_decide_eq_false c9
    have cx : op = bMax := eq_of_beq cx
    have c8 := of_decide_eq_true c8
    exact ⟨⟨y.i, y.c, y.j + 1, ⟨y.c.st.its[y.j].k, y.c.st.its[y.j].n, y.c.st.its[y.j].s, true⟩⟩, ⟨by rw [wrapN (by omega)]⟩, ⟨rfl⟩, ⟨hy.1, hj, by rw [best_step hj hy.2.2]; exact bstep_1 c0 (.inr (.inr (.inr ⟨cx, c8⟩)))⟩, hk, by show y.c.st.its.length - (y.j + 1) < y.c.st.its.length - y.j; omega⟩
   ·have c0 := of_decide_eq_false c0
    have cl : op ≠ bLast := fun x => by subst x; exact absurd cl (by decide)
    have cm : op = bMin := eq_of_beq cm
    have c9 := of_decide_eq_false c9
    have cx : op = bMax := eq_of_beq cx
    have c8 := of_decide_eq_false c8
    exact ⟨⟨y.i, y.c, y.j + 1, y.b⟩, ⟨by rw [wrapN (by omega), fy]⟩, ⟨rfl⟩, ⟨hy.1, hj, by rw [best_step hj hy.2.2]; exact bstep_2 fun h => h.elim (fun h => by rw [fy] at h; cases h) fun h => h.elim (fun h => cl h) fun h => h.elim (fun h => c9 h.2) fun h => c8 h.2⟩, hk, by show y.c.st.its.length - (y.j + 1) < y.c.st.its.length - y.j; omega⟩
   ·have c0 := of_decide_eq_false c0
    have cl : op ≠ bLast := fun x => by subst x; exact absurd cl (by decide)
    have cm : op = bMin := eq_of_beq cm
    have c9 := of_decide_eq_false c9
    have cx : op ≠ bMax := fun x => by subst x; exact absurd cx (by decide)
    exact ⟨⟨y.i, y.c, y.j + 1, y.b⟩, ⟨by rw [wrapN (by omega), fy]⟩, ⟨rfl⟩, ⟨hy.1, hj, by rw [best_step hj hy.2.2]; exact bstep_2 fun h => h.elim (fun h => by rw [fy] at h; cases h) fun h => h.elim (fun h => cl h) fun h => h.elim (fun h => c9 h.2) fun h => cx h.1⟩, hk, by show y.c.st.its.length - (y.j + 1) < y.c.st.its.length - y.j; omega⟩
   ·have c0 := of_decide_eq_false c0
    have cl : op ≠ bLast := fun x => by subst x; exact absurd cl (by decide)
    have cm : op ≠ bMin := fun x => by subst x; exact absurd cm (by decide)
    have cx : op = bMax := eq_of_beq cx
    have c8 := of_decide_eq_true c8
    exact ⟨⟨y.i, y.c, y.j + 1, ⟨y.c.st.its[y.j].k, y.c.st.its[y.j].n, y.c.st.its[y.j].s, true⟩⟩, ⟨by rw [wrapN (by omega)]⟩, ⟨rfl⟩, ⟨hy.1, hj, by rw [best_step hj hy.2.2]; exact bstep_1 c0 (.inr (.inr (.inr ⟨cx, c8⟩)))⟩, hk, by show y.c.st.its.length - (y.j + 1) < y.c.st.its.length - y.j; omega⟩
   ·have c0 := of_decide_eq_false c0
    have cl : op ≠ bLast := fun x => by subst x; exact absurd cl (by decide)
    have cm : op ≠ bMin := fun x => by subst x; exact absurd cm (by decide)
    have cx : op = bMax := eq_of_beq cx
    have c8 := of_decide_eq_false c8
    exact ⟨⟨y.i, y.c, y.j + 1, y.b⟩, ⟨by rw [wrapN (by omega), fy]⟩, ⟨rfl⟩, ⟨hy.1, hj, by rw [best_step hj hy.2.2]; exact bstep_2 fun h => h.elim (fun h => by rw [fy] at h; cases h) fun h => h.elim (fun h => cl h) fun h => h.elim (fun h => cm h.1) fun h => c8 h.2⟩, hk, by show y.c.st.its.length - (y.j + 1) < y.c.st.its.length - y.j; omega⟩
   ·have c0 := of_decide_eq_false c0
    have cl : op ≠ bLast := fun x => by subst x; exact absurd cl (by decide)
    have cm : op ≠ bMin := fun x => by subst x; exact absurd cm (by decide)
    have cx : op ≠ bMax := fun x => by subst x; exact absurd cx (by decide)
    exact ⟨⟨y.i, y.c, y.j + 1, y.b⟩, ⟨by rw [wrapN (by omega), fy]⟩, ⟨rfl⟩, ⟨hy.1, hj, by rw [best_step hj hy.2.2]; exact bstep_2 fun h => h.elim (fun h => by rw [fy] at h; cases h) fun h => h.elim (fun h => cl h) fun h => h.elim (fun h => cm h.1) fun h => cx h.1⟩, hk, by show y.c.st.its.length - (y.j + 1) < y.c.st.its.length - y.j; omega⟩
  ·have ge2 := of_decide_eq_false ge2
   obtain ⟨hyi, hyj, hyb⟩ := hy
   have e : x.1 = y.i := by
    have := congrArg (fun o : Option AV => match o with | some (.int _ z) => z | _ => 0) hk
    have this : (x.1 : Int) = y.i := this
    omega
   have hin : x.1 < l.length := hil
   refine ⟨(y.i + 1, y.b), ⟨by rw [wrapN (by omega), fy]⟩, ⟨rfl⟩, ⟨by show y.i + 1 ≤ _; omega, ?_⟩, by show l.length - (y.i + 1) < l.length - x.1; omega⟩
   show bestP op (itsOf (l.take (y.i + 1))) = y.b
   rw [itsOf_succ hyi, ← hyb, show y.c.st.its.take y.j = y.c.st.its from List.take_of_length_le (by omega)]
  ·have lt2 := of_decide_eq_true lt2
   have hj : y.j < y.c.st.its.length := by omega
   have hjl := hcl y.c hy.1
   refine ⟨⟨by omega, by rw [len_its]; omega⟩, _, _, _, _, _, _, by rw [Int.toNat_natCast]; exact take_it hj, fun c0 => ?_, fun c0 => ⟨_, callIs_iff.2 rfl, ?_⟩⟩
   ·have c0 := of_decide_eq_true c0
    exact ⟨⟨y.i, y.c, y.j + 1, y.b⟩, ⟨by rw [wrapN (by omega), fy]⟩, ⟨rfl⟩, ⟨hy.1, hj, by rw [best_step hj hy.2.2]; exact bstep_0 c0⟩, hk, by show y.c.st.its.length - (y.j + 1) < y.c.st.its.length - y.j; omega⟩
   ·have c0 := of_decide_eq_false c0
    exact ⟨⟨y.i, y.c, y.j + 1, ⟨y.c.st.its[y.j].k, y.c.st.its[y.j].n, y.c.st.its[y.j].s, true⟩⟩, ⟨by rw [wrapN (by omega)]⟩, ⟨rfl⟩, ⟨hy.1, hj, by rw [best_step hj hy.2.2]; exact bstep_1 c0 (.inl fy)⟩, hk, by show y.c.st.its.length - (y.j + 1) < y.c.st.its.length - y.j; omega⟩
  ·have ge2 := of_decide_eq_false ge2
   obtain ⟨hyi, hyj, hyb⟩ := hy
   have e : x.1 = y.i := by
    have := congrArg (fun o : Option AV => match o with | some (.int _ z) => z | _ => 0) hk
    have this : (x.1 : Int) = y.i := this
    omega
   have hin : x.1 < l.length := hil
   refine ⟨(y.i + 1, y.b), ⟨by rw [wrapN (by omega), fy]⟩, ⟨rfl⟩, ⟨by show y.i + 1 ≤ _; omega, ?_⟩, by show l.length - (y.i + 1) < l.length - x.1; omega⟩
   show bestP op (itsOf (l.take (y.i + 1))) = y.b
   rw [itsOf_succ hyi, ← hyb, show y.c.st.its.take y.j = y.c.st.its from List.take_of_length_le (by omega)]
 ·have ge := of_decide_eq_false ge
  refine retIs_iff.2 ?_
  have hall : l.take x.1 = l := List.take_of_length_le (by omega)
  show _ = (keepV op l, _); unfold keepV; rw [if_neg hd, ← hx.2, hall]
 ·have lt := of_decide_eq_true lt
  have hil : x.1 < l.length := by omega
  have hcl : ∀ c, ∀ {i : Nat}, l[i]? = some c → c.st.its.length ≤ 100000 := fun c i h => (hl.2 c (List.mem_of_getElem? h)).2.2.2.1
  refine ⟨⟨by omega, by rw [len_ces]; omega⟩, _, _, _, _, _, _, by rw [Int.toNat_natCast]; exact take_ce hil, ⟨⟨x.1, l[x.1], 0, x.2⟩, ⟨by rw [len_its, fx]; rfl⟩, ⟨rfl⟩, ⟨List.getElem?_eq_getElem hil, Nat.zero_le _, by rw [List.take_zero, List.append_nil]; exact hx.2⟩, rfl⟩, fun y hy hk => ⟨fun fy => ⟨fun lt2 => ?_, fun ge2 => ?_⟩, fun fy => ⟨fun lt2 => ?_, fun ge2 => ?_⟩⟩⟩
  ·have lt2 := of_decide_eq_true lt2
   have hj : y.j < y.c.st.its.length := by omega
   have hjl := hcl y.c hy.1
   refine ⟨⟨by omega, by rw [len_its]; omega⟩, _, _, _, _, _, _, by rw [Int.toNat_natCast]; exact take_it hj, fun c0 => ?_, fun c0 => ⟨_, callIs_iff.2 rfl, fun cl => ?_, fun cl => ⟨fun cm => ⟨fun c9 => ?_, fun c9 => ⟨fun cx => ⟨fun c8 => ?_, fun c8 => ?_⟩, fun cx => ?_⟩⟩, fun cm => ⟨fun cx => ⟨fun c8 => ?_, fun c8 => ?_⟩, fun cx => ?_⟩⟩⟩⟩
   ·have c0 := of_decide_eq_true c0
    exact ⟨⟨y.i, y.c, y.j + 1, y.b⟩, ⟨by rw [wrapN (by omega), fy]⟩, ⟨rfl⟩, ⟨hy.1, hj, by rw [best_step hj hy.2.2]; exact bstep_0 c0⟩, hk, by show y.c.st.its.length - (y.j + 1) < y.c.st.its.length - y.j; omega⟩
   ·have c0 := of_decide_eq_false c0
    have cl : op = bLast := eq_of_beq cl
    exact ⟨⟨y.i, y.c, y.j + 1, ⟨y.c.st.its[y.j].k, y.c.st.its[y.j].n, y.c.st.its[y.j].s, true⟩⟩, ⟨by rw [wrapN (by omega)]⟩, ⟨rfl⟩, ⟨hy.1, hj, by rw [best_step hj hy.2.2]; exact bstep_1 c0 (.inr (.inl cl))⟩, hk, by show y.c.st.its.length - (y.j + 1) < y.c.st.its.length - y.j; omega⟩
   ·have c0 := of_decide_eq_false c0
    have cl : op ≠ bLast := fun x => by subst x; exact absurd cl (by decide)
    have cm : op = bMin := eq_of_beq cm
    have c9 := of_decide_eq_true c9
    exact ⟨⟨y.i, y.c, y.j + 1, ⟨y.c.st.its[y.j].k, y.c.st.its[y.j].n, y.c.st.its[y.j].s, true⟩⟩, ⟨by rw [wrapN (by omega)]⟩, ⟨rfl⟩, ⟨hy.1, hj, by rw [best_step hj hy.2.2]; exact bstep_1 c0 (.inr (.inr (.inl ⟨cm, c9⟩)))⟩, hk, by show y.c.st.its.length - (y.j + 1) < y.c.st.its.length - y.j; omega⟩
   ·have c0 := of_decide_eq_false c0
    have cl : op ≠ bLast := fun x => by subst x; exact absurd cl (by decide)
    have cm : op = bMin := eq_of_beq cm
    have c9 := of_decide_eq_false c9
    have cx : op = bMax := eq_of_beq cx
    have c8 := of_decide_eq_true c8
    exact ⟨⟨y.i, y.c, y.j + 1, ⟨y.c.st.its[y.j].k, y.c.st.its[y.j].n, y.c.st.its[y.j].s, true⟩⟩, ⟨by rw [wrapN (by omega)]⟩, ⟨rfl⟩, ⟨hy.1, hj, by rw [best_step hj hy.2.2]; exact bstep_1 c0 (.inr (.inr (.inr ⟨cx, c8⟩)))⟩, hk, by show y.c.st.its.length - (y.j + 1) < y.c.st.its.length - y.j; omega⟩
   ·have c0 := of_decide_eq_false c0
    have cl : op ≠ bLast := fun x => by subst x; exact absurd cl (by decide)
    have cm : op = bMin := eq_of_beq cm
    have c9 := of_decide_eq_false c9
    have cx : op = bMax := eq_of_beq cx
    have c8 := of_decide_eq_false c8
    exact ⟨⟨y.i, y.c, y.j + 1, y.b⟩, ⟨by rw [wrapN (by omega), fy]⟩, ⟨rfl⟩, ⟨hy.1, hj, by rw [best_step hj hy.2.2]; exact bstep_2 fun h => h.elim (fun h => by rw [fy] at h; cases h) fun h => h.elim (fun h => cl h) fun h => h.elim (fun h => c9 h.2) fun h => c8 h.2⟩, hk, by show y.c.st.its.length - (y.j + 1) < y.c.st.its.length - y.j; omega⟩
   ·have c0 := of_decide_eq_false c0
    have cl : op ≠ bLast := fun x => by subst x; exact absurd cl (by decide)
    have cm : op = bMin := eq_of_beq cm
    have c9 := of_decide_eq_false c9
    have cx : op ≠ bMax := fun x => by subst x; exact absurd cx (by decide)
    exact ⟨⟨y.i, y.c, y.j + 1, y.b⟩, ⟨by rw [wrapN (by omega), fy]⟩, ⟨rfl⟩, ⟨hy.1, hj, by rw [best_step hj hy.2.2]; exact bstep_2 fun h => h.elim (fun h => by rw [fy] at h; cases h) fun h => h.elim (fun h => cl h) fun h => h.elim (fun h => c9 h.2) fun h => cx h.1⟩, hk, by show y.c.st.its.length - (y.j + 1) < y.c.st.its.length - y.j; omega⟩
   ·have c0 := of_decide_eq_false c0
    have cl : op ≠ bLast := fun x => by subst x; exact absurd cl (by decide)
    have cm : op ≠ bMin := fun x => by subst x; exact absurd cm (by decide)
    have cx : op = bMax := eq_of_beq cx
    have c8 := of_decide_eq_true c8
    exact ⟨⟨y.i, y.c, y.j + 1, ⟨y.c.st.its[y.j].k, y.c.st.its[y.j].n, y.c.st.its[y.j].s, true⟩⟩, ⟨by rw [wrapN (by omega)]⟩, ⟨rfl⟩, ⟨hy.1, hj, by rw [best_step hj hy.2.2]; exact bstep_1 c0 (.inr (.inr (.inr ⟨cx, c8⟩)))⟩, hk, by show y.c.st.its.length - (y.j + 1) < y.c.st.its.length - y.j; omega⟩
   ·have c0 := of_decide_eq_false c0
    have cl : op ≠ bLast := fun x => by subst x; exact absurd cl (by decide)
    have cm : op ≠ bMin := fun x => by subst x; exact absurd cm (by decide)
    have cx : op = bMax := eq_of_beq cx
    have c8 := of_decide_eq_false c8
    exact ⟨⟨y.i, y.c, y.j + 1, y.b⟩, ⟨by rw [wrapN (by omega), fy]⟩, ⟨rfl⟩, ⟨hy.1, hj, by rw [best_step hj hy.2.2]; exact bstep_2 fun h => h.elim (fun h => by rw [fy] at h; cases h) fun h => h.elim (fun h => cl h) fun h => h.elim (fun h => cm h.1) fun h => c8 h.2⟩, hk, by show y.c.st.its.length - (y.j + 1) < y.c.st.its.length - y.j; omega⟩
   ·have c0 := of_decide_eq_false c0
    have cl : op ≠ bLast := fun x => by subst x; exact absurd cl (by decide)
    have cm : op ≠ bMin := fun x => by subst x; exact absurd cm (by decide)
    have cx : op ≠ bMax := fun x => by subst x; exact absurd cx (by decide)
    exact ⟨⟨y.i, y.c, y.j + 1, y.b⟩, ⟨by rw [wrapN (by omega), fy]⟩, ⟨rfl⟩, ⟨hy.1, hj, by rw [best_step hj hy.2.2]; exact bstep_2 fun h => h.elim (fun h => by rw [fy] at h; cases h) fun h => h.elim (fun h => cl h) fun h => h.elim (fun h => cm h.1) fun h => cx h.1⟩, hk, by show y.c.st.its.length - (y.j + 1) < y.c.st.its.length - y.j; omega⟩
  ·have ge2 := of_decide_eq_false ge2
   obtain ⟨hyi, hyj, hyb⟩ := hy
   have e : x.1 = y.i := by
    have := congrArg (fun o : Option AV => match o with | some (.int _ z) => z | _ => 0) hk
    have this : (x.1 : Int) = y.i := this
    omega
   have hin : x.1 < l.length := hil
   refine ⟨(y.i + 1, y.b), ⟨by rw [wrapN (by omega), fy]⟩, ⟨rfl⟩, ⟨by show y.i + 1 ≤ _; omega, ?_⟩, by show l.length - (y.i + 1) < l.length - x.1; omega⟩
   show bestP op (itsOf (l.take (y.i + 1))) = y.b
   rw [itsOf_succ hyi, ← hyb, show y.c.st.its.take y.j = y.c.st.its from List.take_of_length_le (by omega)]
  ·have lt2 := of_decide_eq_true lt2
   have hj : y.j < y.c.st.its.length := by omega
   have hjl := hcl y.c hy.1
   refine ⟨⟨by omega, by rw [len_its]; omega⟩, _, _, _, _, _, _, by rw [Int.toNat_natCast]; exact take_it hj, fun c0 => ?_, fun c0 => ⟨_, callIs_iff.2 rfl, ?_⟩⟩
   ·have c0 := of_decide_eq_true c0
    exact ⟨⟨y.i, y.c, y.j + 1, y.b⟩, ⟨by rw [wrapN (by omega), fy]⟩, ⟨rfl⟩, ⟨hy.1, hj, by rw [best_step hj hy.2.2]; exact bstep_0 c0⟩, hk, by show y.c.st.its.length - (y.j + 1) < y.c.st.its.length - y.j; omega⟩
   ·have c0 := of_decide_eq_false c0
    exact ⟨⟨y.i, y.c, y.j + 1, ⟨y.c.st.its[y.j].k, y.c.st.its[y.j].n, y.c.st.its[y.j].s, true⟩⟩, ⟨by rw [wrapN (by omega)]⟩, ⟨rfl⟩, ⟨hy.1, hj, by rw [best_step hj hy.2.2]; exact bstep_1 c0 (.inl fy)⟩, hk, by show y.c.st.its.length - (y.j + 1) < y.c.st.its.length - y.j; omega⟩
  ·have ge2 := of_decide_eq_false ge2
   obtain ⟨hyi, hyj, hyb⟩ := hy
   have e : x.1 = y.i := by
    have := congrArg (fun o : Option AV => match o with | some (.int _ z) => z | _ => 0) hk
    have this : (x.1 : Int) = y.i := this
    omega
   have hin : x.1 < l.length := hil
   refine ⟨(y.i + 1, y.b), ⟨by rw [wrapN (by omega), fy]⟩, ⟨rfl⟩, ⟨by show y.i + 1 ≤ _; omega, ?_⟩, by show l.length - (y.i + 1) < l.length - x.1; omega⟩
   show bestP op (itsOf (l.take (y.i + 1))) = y.b
   rw [itsOf_succ hyi, ← hyb, show y.c.st.its.take y.j = y.c.st.its from List.take_of_length_le (by omega)]
 ·have ge := of_decide_eq_false ge
  refine retIs_iff.2 ?_
  have hall : l.take x.1 = l := List.take_of_length_le (by omega)
  show _ = (keepV op l, _); unfold keepV; rw [if_neg hd, ← hx.2, hall]
theorem cntP_succ {l : List CeI} {i : Nat} (h : i < l.length) : cntP (l.take (i + 1)) = wrap64 (cntP (l.take i) + l[i].st.n) := by
 unfold cntP
 rw [List.take_succ_eq_append_getElem h, List.foldl_append]; rfl
theorem cnt_ok (l : List CeI) : iOk (cntP l) := by
 have h : ∀ (l : List CeI) (s : Int), iOk s → iOk (l.foldl (fun s c => wrap64 (s + c.st.n)) s) := by
  intro l
  induction l with
  | nil => exact fun s h => h
  | cons c l ih => exact fun s _ => ih (wrap64 (s + c.st.n)) (by have := w64_range (s + c.st.n); unfold iOk; omega)
 exact h l 0 (by unfold iOk; omega)
theorem valP_form (fam : Fam) (op : List UInt8) (param kind t n : Int) (l : List CeI) : ∃ a b s, valP fam op param kind t n l = .agg [.int .i64 a, .int .i64 b, .str s] := by
 cases fam with
 | cnt => exact ⟨_, _, _, rfl⟩
 | sum =>
  show ∃ a b s, addV' op param kind t n l = _
  unfold addV'
  split
  ·exact numP_form _ _ _
  ·split <;> exact numP_form _ _ _
 | smp =>
  show ∃ a b s, smpV param kind l = _
  unfold smpV
  split
  ·exact ⟨_, _, _, rfl⟩
  ·split <;> exact ⟨_, _, _, rfl⟩
 | keep f =>
  show ∃ a b s, keepV op l = _
  unfold keepV
  split <;> exact ⟨_, _, _, rfl⟩
theorem sVal_of {fam : Fam} {rc : List AV} (hr : rcOk fam rc = true) {op : List UInt8} {param kind t n : Int} {l : List CeI} (hl : cesOk l) (hn : iOk n) (hp : iOk param) : sVal fam [.agg rc, .agg (qC op param kind t n l)] = some (valP fam op param kind t n l, []) := by
 simp only [sVal, show unL unCe (cesL l) = some l from unL_map unCe_ok l]
 rw [if_pos ⟨hr, .inl trivial, hl, hn, hp⟩]
theorem resv1 {op : List UInt8} {param kind t : Int} {l : List CeI} {fam : Fam} (hf : famO op = some fam) (h : ¬ (cntP l < 1 ∧ op ≠ bCount ∧ op ≠ bDistinct)) : resP op param kind l t = valP fam op param kind t (cntP l) l := by
 unfold resP; rw [hf]; simp only; rw [if_neg h]
theorem resv0 {op : List UInt8} {param kind t : Int} {l : List CeI} {fam : Fam} (hf : famO op = some fam) (h : cntP l < 1 ∧ op ≠ bCount ∧ op ≠ bDistinct) : resP op param kind l t = valA 0 0 [] := by
 unfold resP; rw [hf]; simp only; rw [if_pos h]
theorem p18N (k0 : Int) (op : List UInt8) (param kind t : Int) (l : List CeI) (hf : famO op = none) (hl : cesOk l) : PureOk PA GA (XR none) (tbl [(40, s24)]) (itbl []) (a18 k0 op param kind t l (.lit .nilIface) false) [] 9 [.agg (exC k0 op param), .int .i64 kind, .sl 6 (cesL l) .no, .int .i64 t] (resP op param kind l t, []) := by
 constructor
 rw [w18N, hf]
 refine ⟨callIs_iff.2 rfl, fun h => (nomatch h), fun _ => ⟨⟨0, ⟨by rw [len_ces]; rfl⟩, ⟨by rw [List.take_zero]; rfl⟩, Nat.zero_le _, trivial⟩, fun i hi => ⟨fun lt => ?_, fun ge => ?_⟩⟩⟩
 ·have lt := of_decide_eq_true lt
  have hil : i < l.length := by omega
  have hlen := hl.1
  exact ⟨⟨by omega, by rw [len_ces]; omega⟩, _, _, _, _, _, _, by rw [Int.toNat_natCast]; exact take_ce hil, i + 1, ⟨by rw [wrapN (by omega)]⟩, ⟨by rw [cntP_succ hil, iw]⟩, hil, by omega⟩
 ·refine retIs_iff.2 ?_
  unfold resP; rw [hf]
theorem p18C (k0 : Int) (op : List UInt8) (param kind t : Int) (l : List CeI) (hf : famO op = some .cnt) (hl : cesOk l) (hp : iOk param) : PureOk PA GA (XR (some .cnt)) (tbl [(40, s24), (103, s43)]) (itbl []) (a18 k0 op param kind t l (.lit (.iface 101 (.agg #[]))) true) [] 9 [.agg (exC k0 op param), .int .i64 kind, .sl 6 (cesL l) .no, .int .i64 t] (resP op param kind l t, []) := by
 constructor
 rw [w18C, hf]
 refine ⟨callIs_iff.2 rfl, fun _ => ⟨⟨0, ⟨by rw [len_ces]; rfl⟩, ⟨by rw [List.take_zero]; rfl⟩, Nat.zero_le _, trivial⟩, fun i hi => ⟨fun lt => ?_, fun ge => ?_⟩⟩, fun h => (nomatch h)⟩
 ·have lt := of_decide_eq_true lt
  have hil : i < l.length := by omega
  have hlen := hl.1
  exact ⟨⟨by omega, by rw [len_ces]; omega⟩, _, _, _, _, _, _, by rw [Int.toNat_natCast]; exact take_ce hil, i + 1, ⟨by rw [wrapN (by omega)]⟩, ⟨by rw [cntP_succ hil, iw]⟩, hil, by omega⟩
 ·have ge := of_decide_eq_false ge
  have hall : l.take i = l := List.take_of_length_le (by omega)
  rw [hall]
  obtain ⟨a, b, s, he⟩ := valP_form .cnt op param kind t (cntP l) l
  have hcall : tbl [(40, s24), (103, s43)] 103 [AV.agg [], .agg (qC op param kind t (cntP l) l)] = some (AV.agg [.int .i64 a, .int .i64 b, .str s], []) := by
   rw [tb_miss (by decide), tb_hit, ← he]; exact sVal_of rfl hl (cnt_ok l) hp
  refine ⟨fun c => ⟨fun d => ⟨fun e => retIs_iff.2 ?_, fun e => ?_⟩, fun d => ?_⟩, fun c => ?_⟩
  ·have c := of_decide_eq_true c
   have d : op ≠ bCount := fun x => by subst x; exact absurd d (by decide)
   have e : op ≠ bDistinct := fun x => by subst x; exact absurd e (by decide)
   rw [resv0 hf ⟨c, d, e⟩]
  ·have e : op = bDistinct := by simpa using e
   exact ⟨a, b, s, callIs_iff.2 hcall, retIs_iff.2 (by rw [resv1 hf (fun x => x.2.2 e), he])⟩
  ·have d : op = bCount := by simpa using d
   exact ⟨a, b, s, callIs_iff.2 hcall, retIs_iff.2 (by rw [resv1 hf (fun x => x.2.1 d), he])⟩
  ·have c := of_decide_eq_false c
   exact ⟨a, b, s, callIs_iff.2 hcall, retIs_iff.2 (by rw [resv1 hf (fun x => c x.1), he])⟩
theorem p18S (k0 : Int) (op : List UInt8) (param kind t : Int) (l : List CeI) (hf : famO op = some .sum) (hl : cesOk l) (hp : iOk param) : PureOk PA GA (XR (some .sum)) (tbl [(40, s24), (106, s46)]) (itbl []) (a18 k0 op param kind t l (.lit (.iface 103 (.agg #[]))) true) [] 9 [.agg (exC k0 op param), .int .i64 kind, .sl 6 (cesL l) .no, .int .i64 t] (resP op param kind l t, []) := by
 constructor
 rw [w18S, hf]
 refine ⟨callIs_iff.2 rfl, fun _ => ⟨⟨0, ⟨by rw [len_ces]; rfl⟩, ⟨by rw [List.take_zero]; rfl⟩, Nat.zero_le _, trivial⟩, fun i hi => ⟨fun lt => ?_, fun ge => ?_⟩⟩, fun h => (nomatch h)⟩
 ·have lt := of_decide_eq_true lt
  have hil : i < l.length := by omega
  have hlen := hl.1
  exact ⟨⟨by omega, by rw [len_ces]; omega⟩, _, _, _, _, _, _, by rw [Int.toNat_natCast]; exact take_ce hil, i + 1, ⟨by rw [wrapN (by omega)]⟩, ⟨by rw [cntP_succ hil, iw]⟩, hil, by omega⟩
 ·have ge := of_decide_eq_false ge
  have hall : l.take i = l := List.take_of_length_le (by omega)
  rw [hall]
  obtain ⟨a, b, s, he⟩ := valP_form .sum op param kind t (cntP l) l
  have hcall : tbl [(40, s24), (106, s46)] 106 [AV.agg [], .agg (qC op param kind t (cntP l) l)] = some (AV.agg [.int .i64 a, .int .i64 b, .str s], []) := by
   rw [tb_miss (by decide), tb_hit, ← he]; exact sVal_of rfl hl (cnt_ok l) hp
  refine ⟨fun c => ⟨fun d => ⟨fun e => retIs_iff.2 ?_, fun e => ?_⟩, fun d => ?_⟩, fun c => ?_⟩
  ·have c := of_decide_eq_true c
   have d : op ≠ bCount := fun x => by subst x; exact absurd d (by decide)
   have e : op ≠ bDistinct := fun x => by subst x; exact absurd e (by decide)
   rw [resv0 hf ⟨c, d, e⟩]
  ·have e : op = bDistinct := by simpa using e
   exact ⟨a, b, s, callIs_iff.2 hcall, retIs_iff.2 (by rw [resv1 hf (fun x => x.2.2 e), he])⟩
  ·have d : op = bCount := by simpa using d
   exact ⟨a, b, s, callIs_iff.2 hcall, retIs_iff.2 (by rw [resv1 hf (fun x => x.2.1 d), he])⟩
  ·have c := of_decide_eq_false c
   exact ⟨a, b, s, callIs_iff.2 hcall, retIs_iff.2 (by rw [resv1 hf (fun x => c x.1), he])⟩
theorem p18Q (k0 : Int) (op : List UInt8) (param kind t : Int) (l : List CeI) (hf : famO op = some .smp) (hl : cesOk l) (hp : iOk param) : PureOk PA GA (XR (some .smp)) (tbl [(40, s24), (111, s65)]) (itbl []) (a18 k0 op param kind t l (.lit (.iface 104 (.agg #[]))) true) [] 9 [.agg (exC k0 op param), .int .i64 kind, .sl 6 (cesL l) .no, .int .i64 t] (resP op param kind l t, []) := by
 constructor
 rw [w18Q, hf]
 refine ⟨callIs_iff.2 rfl, fun _ => ⟨⟨0, ⟨by rw [len_ces]; rfl⟩, ⟨by rw [List.take_zero]; rfl⟩, Nat.zero_le _, trivial⟩, fun i hi => ⟨fun lt => ?_, fun ge => ?_⟩⟩, fun h => (nomatch h)⟩
 ·have lt := of_decide_eq_true lt
  have hil : i < l.length := by omega
  have hlen := hl.1
  exact ⟨⟨by omega, by rw [len_ces]; omega⟩, _, _, _, _, _, _, by rw [Int.toNat_natCast]; exact take_ce hil, i + 1, ⟨by rw [wrapN (by omega)]⟩, ⟨by rw [cntP_succ hil, iw]⟩, hil, by omega⟩
 ·have ge := of_decide_eq_false ge
  have hall : l.take i = l := List.take_of_length_le (by omega)
  rw [hall]
  obtain ⟨a, b, s, he⟩ := valP_form .smp op param kind t (cntP l) l
  have hcall : tbl [(40, s24), (111, s65)] 111 [AV.agg [], .agg (qC op param kind t (cntP l) l)] = some (AV.agg [.int .i64 a, .int .i64 b, .str s], []) := by
   rw [tb_miss (by decide), tb_hit, ← he]; exact sVal_of rfl hl (cnt_ok l) hp
  refine ⟨fun c => ⟨fun d => ⟨fun e => retIs_iff.2 ?_, fun e => ?_⟩, fun d => ?_⟩, fun c => ?_⟩
  ·have c := of_decide_eq_true c
   have d : op ≠ bCount := fun x => by subst x; exact absurd d (by decide)
   have e : op ≠ bDistinct := fun x => by subst x; exact absurd e (by decide)
   rw [resv0 hf ⟨c, d, e⟩]
  ·have e : op = bDistinct := by simpa using e
   exact ⟨a, b, s, callIs_iff.2 hcall, retIs_iff.2 (by rw [resv1 hf (fun x => x.2.2 e), he])⟩
  ·have d : op = bCount := by simpa using d
   exact ⟨a, b, s, callIs_iff.2 hcall, retIs_iff.2 (by rw [resv1 hf (fun x => x.2.1 d), he])⟩
  ·have c := of_decide_eq_false c
   exact ⟨a, b, s, callIs_iff.2 hcall, retIs_iff.2 (by rw [resv1 hf (fun x => c x.1), he])⟩
theorem p18K (k0 : Int) (op : List UInt8) (param kind t : Int) (l : List CeI) (hf : famO op = some (.keep false)) (hl : cesOk l) (hp : iOk param) : PureOk PA GA (XR (some (.keep false))) (tbl [(40, s24), (146, s101)]) (itbl []) (a18 k0 op param kind t l (.lit (.iface 106 (.agg #[.bool false]))) true) [] 9 [.agg (exC k0 op param), .int .i64 kind, .sl 6 (cesL l) .no, .int .i64 t] (resP op param kind l t, []) := by
 constructor
 rw [w18K, hf]
 refine ⟨callIs_iff.2 rfl, fun _ => ⟨⟨0, ⟨by rw [len_ces]; rfl⟩, ⟨by rw [List.take_zero]; rfl⟩, Nat.zero_le _, trivial⟩, fun i hi => ⟨fun lt => ?_, fun ge => ?_⟩⟩, fun h => (nomatch h)⟩
 ·have lt := of_decide_eq_true lt
  have hil : i < l.length := by omega
  have hlen := hl.1
  exact ⟨⟨by omega, by rw [len_ces]; omega⟩, _, _, _, _, _, _, by rw [Int.toNat_natCast]; exact take_ce hil, i + 1, ⟨by rw [wrapN (by omega)]⟩, ⟨by rw [cntP_succ hil, iw]⟩, hil, by omega⟩
 ·have ge := of_decide_eq_false ge
  have hall : l.take i = l := List.take_of_length_le (by omega)
  rw [hall]
  obtain ⟨a, b, s, he⟩ := valP_form (.keep false) op param kind t (cntP l) l
  have hcall : tbl [(40, s24), (146, s101)] 146 [AV.agg [.bool false], .agg (qC op param kind t (cntP l) l)] = some (AV.agg [.int .i64 a, .int .i64 b, .str s], []) := by
   rw [tb_miss (by decide), tb_hit, ← he]; exact sVal_of rfl hl (cnt_ok l) hp
  refine ⟨fun c => ⟨fun d => ⟨fun e => retIs_iff.2 ?_, fun e => ?_⟩, fun d => ?_⟩, fun c => ?_⟩
  ·have c := of_decide_eq_true c
   have d : op ≠ bCount := fun x => by subst x; exact absurd d (by decide)
   have e : op ≠ bDistinct := fun x => by subst x; exact absurd e (by decide)
   rw [resv0 hf ⟨c, d, e⟩]
  ·have e : op = bDistinct := by simpa using e
   exact ⟨a, b, s, callIs_iff.2 hcall, retIs_iff.2 (by rw [resv1 hf (fun x => x.2.2 e), he])⟩
  ·have d : op = bCount := by simpa using d
   exact ⟨a, b, s, callIs_iff.2 hcall, retIs_iff.2 (by rw [resv1 hf (fun x => x.2.1 d), he])⟩
  ·have c := of_decide_eq_false c
   exact ⟨a, b, s, callIs_iff.2 hcall, retIs_iff.2 (by rw [resv1 hf (fun x => c x.1), he])⟩
theorem p18O (k0 : Int) (op : List UInt8) (param kind t : Int) (l : List CeI) (hf : famO op = some (.keep true)) (hl : cesOk l) (hp : iOk param) : PureOk PA GA (XR (some (.keep true))) (tbl [(40, s24), (146, s101)]) (itbl []) (a18 k0 op param kind t l (.lit (.iface 106 (.agg #[.bool true]))) true) [] 9 [.agg (exC k0 op param), .int .i64 kind, .sl 6 (cesL l) .no, .int .i64 t] (resP op param kind l t, []) := by
 constructor
 rw [w18O, hf]
 refine ⟨callIs_iff.2 rfl, fun _ => ⟨⟨0, ⟨by rw [len_ces]; rfl⟩, ⟨by rw [List.take_zero]; rfl⟩, Nat.zero_le _, trivial⟩, fun i hi => ⟨fun lt => ?_, fun ge => ?_⟩⟩, fun h => (nomatch h)⟩
 ·have lt := of_decide_eq_true lt
  have hil : i < l.length := by omega
  have hlen := hl.1
  exact ⟨⟨by omega, by rw [len_ces]; omega⟩, _, _, _, _, _, _, by rw [Int.toNat_natCast]; exact take_ce hil, i + 1, ⟨by rw [wrapN (by omega)]⟩, ⟨by rw [cntP_succ hil, iw]⟩, hil, by omega⟩
 ·have ge := of_decide_eq_false ge
  have hall : l.take i = l := List.take_of_length_le (by omega)
  rw [hall]
  obtain ⟨a, b, s, he⟩ := valP_form (.keep true) op param kind t (cntP l) l
  have hcall : tbl [(40, s24), (146, s101)] 146 [AV.agg [.bool true], .agg (qC op param kind t (cntP l) l)] = some (AV.agg [.int .i64 a, .int .i64 b, .str s], []) := by
   rw [tb_miss (by decide), tb_hit, ← he]; exact sVal_of rfl hl (cnt_ok l) hp
  refine ⟨fun c => ⟨fun d => ⟨fun e => retIs_iff.2 ?_, fun e => ?_⟩, fun d => ?_⟩, fun c => ?_⟩
  ·have c := of_decide_eq_true c
   have d : op ≠ bCount := fun x => by subst x; exact absurd d (by decide)
   have e : op ≠ bDistinct := fun x => by subst x; exact absurd e (by decide)
   rw [resv0 hf ⟨c, d, e⟩]
  ·have e : op = bDistinct := by simpa using e
   exact ⟨a, b, s, callIs_iff.2 hcall, retIs_iff.2 (by rw [resv1 hf (fun x => x.2.2 e), he])⟩
  ·have d : op = bCount := by simpa using d
   exact ⟨a, b, s, callIs_iff.2 hcall, retIs_iff.2 (by rw [resv1 hf (fun x => x.2.1 d), he])⟩
  ·have c := of_decide_eq_false c
   exact ⟨a, b, s, callIs_iff.2 hcall, retIs_iff.2 (by rw [resv1 hf (fun x => c x.1), he])⟩
theorem spec_wkF {P : Program} {G : Glob} {f : FuncId} {s : Spec} (g : AV → AV) (hr : ∀ {E : Env} {w : World} {a : AV} {v : Value}, Rep E w a v → Rep E w (g a) v) (hc : ∀ {a : AV}, a.closed1 = true → (g a).closed1 = true) (h : ∀ args r, s args = some r → SpecOk P G f (fun a => open Classical in if a = args.map g then some r else none)) : SpecOk P G f s := by
 intro g' args r lv hr'
 simp only at hr'
 split at hr'
 ·rename_i e
  subst e
  have := h args (r, lv) hr' g' (args.map g) r lv (by simp)
  intro E w vs hI hG hn hv hcl
  refine this E w vs hI hG (by rw [List.length_map]; exact hn) (fun i c v hi hv' => ?_) fun c hc' => ?_
  ·rw [List.getElem?_map] at hi
   cases ha : args[i]? with
   | none => rw [ha] at hi; cases hi
   | some a =>
    rw [ha] at hi
    simp only [Option.map_some, Option.some.injEq] at hi
    subst hi
    exact hr (hv i a v ha hv')
  ·obtain ⟨a, ha, rfl⟩ := List.mem_map.1 hc'
   exact hc (hcl a ha)
 ·cases hr'
def unQ : AV → Option (List AV)
 | .agg [.str op, .int .i64 p, .int .i64 k, .int .i64 t, .int .i64 n, .sl sz es _] => match unL unCe es with
  | some l => if sz = 6 ∨ l = [] then some (qC op p k t n l) else none
  | none => none
 | _ => none
def wkQ (a : AV) : AV := match unQ a with
 | some q => .agg q
 | none => a
theorem unQ_inv {a : AV} {q : List AV} (h : unQ a = some q) : Lax1 a (.agg q) ∧ (AV.agg q).closed1 = true := by
 unfold unQ at h
 split at h
 ·split at h
  ·rename_i l hl
   split at h
   ·rename_i hc
    injection h with h; subst h
    obtain rfl := unL_inv unCe_inv hl
    refine ⟨⟨rfl, rfl, rfl, rfl, rfl, ⟨rfl, rfl, ?_⟩, trivial⟩, rfl⟩
    rcases hc with h | h
    ·exact .inl h
    ·exact .inr (by rw [h]; rfl)
   ·cases h
  ·cases h
 ·cases h
theorem rep_wkQ {E : Env} {w : World} {a : AV} {v : Value} (h : Rep E w a v) : Rep E w (wkQ a) v := by
 unfold wkQ
 split
 ·rename_i q hq; exact (unQ_inv hq).1.rep h
 ·exact h
theorem closed_wkQ {a : AV} (h : a.closed1 = true) : (wkQ a).closed1 = true := by
 unfold wkQ
 split
 ·rename_i q hq; exact (unQ_inv hq).2
 ·exact h
theorem sVal_inv {fam : Fam} {args : List AV} {r : AV × List (Nat × TypeId)} (h : sVal fam args = some r) : ∃ rc op param kind t n l, args.map wkQ = [.agg rc, .agg (qC op param kind t n l)] ∧ rcOk fam rc = true ∧ cesOk l ∧ iOk n ∧ iOk param ∧ r = (valP fam op param kind t n l, []) := by
 unfold sVal at h
 split at h
 case h_2 => cases h
 rename_i rc op param kind t n sz es o
 split at h
 case h_2 => cases h
 rename_i l hl
 split at h
 case isFalse => cases h
 rename_i hc
 obtain ⟨h1, h2, h3, h4, h5⟩ := hc
 injection h with h; subst h
 refine ⟨rc, op, param, kind, t, n, l, ?_, h1, h3, h4, h5, rfl⟩
 have e1 : wkQ (.agg rc) = .agg rc := by
  unfold rcOk at h1
  split at h1 <;> first | rfl | cases h1
 have e2 : wkQ (.agg [.str op, .int .i64 param, .int .i64 kind, .int .i64 t, .int .i64 n, .sl sz es o]) = .agg (qC op param kind t n l) := by
  have : unQ (.agg [.str op, .int .i64 param, .int .i64 kind, .int .i64 t, .int .i64 n, .sl sz es o]) = some (qC op param kind t n l) := by
   simp only [unQ, hl]; rw [if_pos h2]
  unfold wkQ; rw [this]
 rw [List.map_cons, List.map_cons, e1, e2]; rfl
theorem rc_nil {fam : Fam} {rc : List AV} (h : rcOk fam rc = true) (hf : ∀ f, fam ≠ .keep f) : rc = [] := by
 unfold rcOk at h
 split at h
 ·exact absurd rfl (hf _)
 ·cases h
 ·rfl
 ·cases h
theorem o43 : SpecOk PA GA 103 s43 := spec_wkF wkQ rep_wkQ closed_wkQ fun args r h => by
 obtain ⟨rc, op, param, kind, t, n, l, e, hr, hl, hn, hp, rfl⟩ := sVal_inv h
 obtain rfl := rc_nil hr (fun f => by simp)
 rw [e]
 exact one_pure mixedA tbl_nil itbl_nil (p43 op param kind t n l)
theorem o46 : SpecOk PA GA 106 s46 := spec_wkF wkQ rep_wkQ closed_wkQ fun args r h => by
 obtain ⟨rc, op, param, kind, t, n, l, e, hr, hl, hn, hp, rfl⟩ := sVal_inv h
 obtain rfl := rc_nil hr (fun f => by simp)
 rw [e]
 exact one_pure mixedA (tbl_cons o50 (tbl_cons o8 (tbl_cons o49 (tbl_cons o47 (tbl_cons o51 tbl_nil))))) itbl_nil (p46 op param kind t n l hl hp hn)
theorem o65 : SpecOk PA GA 111 s65 := spec_wkF wkQ rep_wkQ closed_wkQ fun args r h => by
 obtain ⟨rc, op, param, kind, t, n, l, e, hr, hl, hn, hp, rfl⟩ := sVal_inv h
 obtain rfl := rc_nil hr (fun f => by simp)
 rw [e]
 exact one_pure mixedA (tbl_cons o66 (tbl_cons o68 tbl_nil)) itbl_nil (p65 op param kind t n l hl)
theorem o101 : SpecOk PA GA 146 s101 := spec_wkF wkQ rep_wkQ closed_wkQ fun args r h => by
 obtain ⟨rc, op, param, kind, t, n, l, e, hr, hl, hn, hp, rfl⟩ := sVal_inv h
 rw [e]
 unfold rcOk at hr
 split at hr
 ·exact one_pure mixedA (tbl_cons o104 (tbl_cons o105 tbl_nil)) itbl_nil (p101 _ op param kind t n l hl)
 ·cases hr
 ·rename_i hx; exact absurd rfl (hx _)
 ·cases hr
theorem o18 : SpecOk PA GA 9 s18 := spec_wkS fun args r h => by
 unfold s18 at h
 split at h
 case h_2 => cases h
 rename_i k0 op a b c d e z1 param f g z2 kind sz es o t
 split at h
 case h_2 => cases h
 rename_i l hl
 split at h
 case isFalse => cases h
 rename_i hc
 injection h with h; subst h
 obtain ⟨⟨⟨ha, hb, he⟩, hc1, hd, hf0, hg, hz1, hz2⟩, hs, hl2, hp⟩ := hc
 obtain rfl := List.isEmpty_iff.1 ha
 obtain rfl := List.isEmpty_iff.1 hb
 obtain rfl := List.isEmpty_iff.1 he
 subst hc1 hd hf0 hg hz1 hz2
 obtain rfl := unL_inv unCe_inv hl
 have e : [AV.agg (exC k0 op param), .int .i64 kind, .sl sz (l.map ceA) o, .int .i64 t].map wkSt = [.agg (exC k0 op param), .int .i64 kind, .sl 6 (cesL l) .no, .int .i64 t] := by
  cases l with
  | nil => rfl
  | cons x l =>
   obtain rfl : sz = 6 := hs.resolve_right (by simp)
   rfl
 rw [e]
 rcases hf : famO op with _ | fam
 ·exact one_pure mixedA (tbl_cons o24 tbl_nil) itbl_nil (p18N k0 op param kind t l hf hl2)
 ·rcases fam with _ | _ | _ | f
  ·exact one_pure mixedA (tbl_cons o24 (tbl_cons o43 tbl_nil)) itbl_nil (p18C k0 op param kind t l hf hl2 hp)
  ·exact one_pure mixedA (tbl_cons o24 (tbl_cons o46 tbl_nil)) itbl_nil (p18S k0 op param kind t l hf hl2 hp)
  ·exact one_pure mixedA (tbl_cons o24 (tbl_cons o65 tbl_nil)) itbl_nil (p18Q k0 op param kind t l hf hl2 hp)
  ·cases f with
   | false => exact one_pure mixedA (tbl_cons o24 (tbl_cons o101 tbl_nil)) itbl_nil (p18K k0 op param kind t l hf hl2 hp)
   | true => exact one_pure mixedA (tbl_cons o24 (tbl_cons o101 tbl_nil)) itbl_nil (p18O k0 op param kind t l hf hl2 hp)
end Go.Abs
namespace Go.Abs
open Go.Proofs Go.RowKit
theorem spec_run {P : Program} {G : Glob} {R0 : Callee} (hm : P.follows .mixedOrders = true) (h0 : CalleeOk P G R0) {f : FuncId} {s : Spec} (h : ∀ args r, s args = some r → ∃ n, (evs P G R0 (fun _ => []) n).1 f args = some r) : SpecOk P G f s := by
 intro g args r lv hr
 simp only at hr
 split at hr
 ·rename_i e
  subst e
  obtain ⟨n, hn⟩ := h args _ hr
  exact (evs_ok hm h0 (fun _ => []) n).1 g args r lv hn
 ·cases hr
noncomputable abbrev tEx : List (FuncId × Spec) := [(10, s12), (9, s18), (18, s8), (22, s22)]
theorem tEx_ok : CalleeOk PA GA (tbl tEx) := tbl_cons o12 (tbl_cons o18 (tbl_cons o8 (tbl_cons o22 tbl_nil)))
def s7 : Spec := fun args => match args with
 | [] => some (.bool true, [])
 | _ => none
theorem run7 : (evs PA GA (tbl tEx) (fun _ => []) 9).1 7 [] = some (.bool true, []) := by kernel_rfl
theorem o7 : SpecOk PA GA 7 s7 := spec_run mixedA tEx_ok fun args r h => by
 unfold s7 at h
 split at h
 case h_2 => cases h
 injection h with h; subst h
 exact ⟨9, run7⟩
section
variable {P : Program} {G : Glob}
theorem pure_calls {X : Shapes} {R : Callee} {C : CCallee} (hm : P.follows .mixedOrders = true) (hR : CalleeOk P G R) (hC : ICalleeOk P G (lowC C)) {A : Anns} {m : List Bool} {f : FuncId} {args : List AV} {r : AV} {lv : List (Nat × TypeId)} (hA : PureOk P G X R C A m f args (r, lv)) :
  goodFn P f ∧ ∀ (E : Env) (w : World) (vs : Array Value), (∀ b o, E.I b o → b < w.heap.size) → GlobOk G E w → vs.size = args.length → (∀ (i : Nat) (c : AV) (v : Value), args[i]? = some c → vs[i]? = some v → Rep E w c v) → (∀ c ∈ args, c.closed1 = true) →
   Calls P f vs w fun e w' => ∃ v, e = .returned v ∧ Res P E w w' r lv v := by
 obtain ⟨hg, hcall⟩ := fnW_ok hm hR hC hA.out
 refine ⟨hg, fun E w vs hI hG hn hv hcl => ?_⟩
 have hS0 : SR P G (· < w.heap.size) w E.I ⟨[], []⟩ ⟨E.I, fun _ => none, fun _ _ _ => False⟩ w :=
  ⟨BelowQ.refl _ _, fun _ h => h, hI, fun b o h _ => h, fun id b h => (nomatch h), fun id id' b h => (nomatch h), fun id cs h => (nomatch h), fun g e hg => ⟨(hG g e hg).1, rep_elt_rebase (hG g e hg).2.1 _ _, (hG g e hg).2.2⟩, fun id h => (nomatch h), fun t n v h => False.elim h, fun t n v h => False.elim h, fun t n e h => (nomatch h)⟩
 refine (hcall _ _ _ _ w vs hS0 hn fun i c v hi hv' => (hv i c v hi hv').rebase (hcl c (List.mem_of_getElem? hi)) _ _).mono fun e w' ⟨v, E', r0, S', he, hk, h1, h2, h3⟩ => ?_
 obtain ⟨r1, S1, hgv, hk⟩ := giveW_imp hk
 obtain ⟨E1, k1, k2, k3⟩ := giveA_ok h1 hgv h3
 obtain ⟨r', lv', hnorm, ⟨he'⟩⟩ := normW_imp hk
 injection he' with h5 h6
 subst h5; subst h6
 exact ⟨v, he, normA_res (E0 := E) k1 (fun b o hi => (k2.I b o (h2.I b o hi).1).1) hnorm k3⟩
def flatC : AV → Bool
 | .str _ | .int .. | .bool _ => true
 | .sl _ [] .no => true
 | _ => false
theorem rep_flat {E E' : Env} {w w' : World} {c : AV} {v : Value} (hc : flatC c = true) (h : Rep E w c v) : Rep E' w' c v := by
 unfold flatC at hc
 split at hc
 ·cases h with | str _ s hs => exact .str _ s hs
 ·cases h; exact .int _ _
 ·cases h; exact .bool _
 ·cases h with
  | sl _ _ _ A cap u hcap hmax hA hsz hcl ho hr h1 => exact .sl _ [] .no A cap u hcap hmax (.inl rfl) (by simp) (by simp) trivial (fun i e j c hi => by simp at hi) h1
 ·cases hc
theorem thaw_of {X : Shapes} {R : Callee} {C : CCallee} (hm : P.follows .mixedOrders = true) (hR : CalleeOk P G R) (hC : ICalleeOk P G (lowC C)) {m : List Bool} {f : FuncId} {t : ISpec}
  (h : ∀ args S p r, t args S = some (p, r) → p → ∃ es e sz A, PureOk P G X R C A m f args (.sl sz es (.tok 0), [(es.length, e)]) ∧ es ≠ [] ∧ 0 < sz ∧ sizeA P e = some sz ∧ (∀ x ∈ es, ∀ c ∈ x.cells, flatC c = true) ∧ (∀ c ∈ args, c.closed1 = true) ∧ r = (.ms S.boxes.length sz es.length, { S with boxes := S.boxes ++ [some (ownC sz es)] })) : ISpecOk P G f t := by
 intro g args S r S' hr
 simp only [lowC] at hr
 by_cases e : g = f
 case neg => simp only [if_neg e] at hr; cases hr
 subst e
 simp only [if_true] at hr
 split at hr
 case h_2 => cases hr
 rename_i x hx
 split at hr
 case isFalse => cases hr
 rename_i hp
 injection hr with hr
 obtain ⟨es, e, sz, A, hA, hne, hsz0, hsz, hflat, hcl, hres⟩ := h args S x.1 x.2 hx hp
 rw [hres] at hr
 injection hr with h1 h2
 subst h1; subst h2
 obtain ⟨hg, hcall⟩ := pure_calls hm hR hC hA
 refine ⟨hg, fun N0 w0 I0 E w vs hS hn hv => (hcall E w vs hS.Ilt hS.glob hn hv hcl).mono fun e' w' ⟨v, he, I', i1, i2, hb, hr⟩ => ?_⟩
 rcases hr with ⟨hl, _⟩ | ⟨n, e2, hv', sz2, xs, hl, hsz2, hown, _, hrep⟩
 ·cases hl
 injection hl with hl _
 injection hl with hn2 he2
 subst hn2; subst he2
 rw [hsz] at hsz2
 injection hsz2 with hsz2
 subst hsz2
 have hrep := hrep (fun _ => none) (fun t k y => y = hv') 0 rfl
 have hrep : Rep ⟨I', fun _ => none, fun t k y => y = hv'⟩ w' (.sl sz es (.tok 0)) v := hrep
 cases hrep with
 | sl _ _ _ Ad cap u hcap hmax hAd hesz hecl ho hr2 h12 =>
  have hvv : (Value.slice Ad es.length cap) = hv' := ho
  subst hvv
  have hlen : 0 < es.length := List.length_pos_iff.2 hne
  have hnv : (Value.slice Ad es.length cap) ≠ .slice none 0 0 := fun h => by injection h with _ h _; omega
  rcases hown.2 with ⟨hv2, _⟩ | ⟨gb, cap2, cur, hv2, hbase, hbk, g1, g2, g3, g4⟩
  ·exact absurd hv2 hnv
  injection hv2 with hAd2 _ _
  obtain ⟨b, off, hAd3, hcells⟩ := hAd.resolve_left hne
  rw [hAd2] at hAd3
  injection hAd3 with hAd3
  injection hAd3 with hb1 ho1 _
  subst hb1; subst ho1
  have hcur : ∀ (i : Nat) (x : AV) (j : Nat) (c : AV), es[i]? = some x → x.cells[j]? = some c → xs[i * sz + j]? = some (u i j) := fun i x j c hi hj => by
   have h2 := (hcells i x j c hi hj).2
   simp only [World.cell?, hbk, Nat.zero_add] at h2
   have h2 : cur[i * sz + j]? = some (u i j) := by simpa using h2
   have hil : i < es.length := (List.getElem?_eq_some_iff.1 hi).1
   have hjl : j < sz := by
    have := (List.getElem?_eq_some_iff.1 hj).1
    rw [hesz x (List.mem_of_getElem? hi)] at this; exact this
   have hb3 : i * sz + j < es.length * sz := by
    have : (i + 1) * sz ≤ es.length * sz := Nat.mul_le_mul_right _ hil
    rw [Nat.add_mul, Nat.one_mul] at this
    omega
   rw [← g4, List.getElem?_take, if_pos hb3, Array.getElem?_toList]
   exact h2
  have hvals : Vals E w' sz es xs := by
   refine ⟨hown.1, hesz, hecl, fun y hy => ?_, fun i x j c hi hj => ⟨_, hcur i x j c hi hj, rep_flat (hflat x (List.mem_of_getElem? hi) c (List.mem_of_getElem? hj)) (hr2 i x j c hi hj)⟩⟩
   obtain ⟨k, hk⟩ := List.mem_iff_getElem?.1 hy
   have hkl : k < es.length * sz := by rw [← hown.1]; exact (List.getElem?_eq_some_iff.1 hk).1
   have q1 : k / sz < es.length := (Nat.div_lt_iff_lt_mul hsz0).2 hkl
   have q2 : k % sz < (es[k / sz]).cells.length := by rw [hesz _ (List.getElem_mem q1)]; exact Nat.mod_lt _ hsz0
   have h3 := hcur _ _ _ _ (List.getElem?_eq_getElem q1) (List.getElem?_eq_getElem q2)
   have hdm : k / sz * sz + k % sz = k := by rw [Nat.mul_comm]; exact Nat.div_add_mod k sz
   rw [hdm, hk] at h3
   injection h3 with h3
   rw [h3]; exact h12 _ _
  obtain ⟨E', t1, t2, t3⟩ := hS.take_new hb hown hnv rfl hvals
  exact ⟨_, E', he, t1, t2, t3⟩
end
end Go.Abs
namespace Go.Abs
open Go.Proofs Go.Proofs.K17 Go.Proofs.D17 Go.RowKit
def keptDig (n : Nat) (x : Int) : List Int := (List.range n).map fun i => x / (65536 : Int) ^ i % 65536
def valB : List Int → Int
 | [] => 0
 | d :: r => d + 65536 * valB r
abbrev intsA (l : List Int) : List AV := l.map (AV.int .i64)
def unD : AV → Option Int
 | .int .i64 n => some n
 | _ => none
def dOk (l : List Int) : Prop := l.length = 8 ∧ ∀ d ∈ l, 0 ≤ d ∧ d < 65536
def cOk (l : List Int) : Prop := l.length = 8 ∧ ∀ d ∈ l, -1000000000000 ≤ d ∧ d ≤ 1000000000000
instance (l : List Int) : Decidable (dOk l) := inferInstanceAs (Decidable (_ ∧ _))
instance (l : List Int) : Decidable (cOk l) := inferInstanceAs (Decidable (_ ∧ _))
def zDig : Spec := fun args => match args with
 | [.agg [.int .i64 h, .int .u64 l]] => if wOk h l then some (.sl 1 (intsA (keptDig 8 (wv h l))) (.tok 0), [(8, 3)]) else none
 | _ => none
def zDigM : ISpec := fun args S => match args with
 | [.agg [.int .i64 h, .int .u64 l]] => some (wOk h l, .ms S.boxes.length 1 8, { S with boxes := S.boxes ++ [some (ownC 1 (intsA (keptDig 8 (wv h l))))] })
 | _ => none
def zCarry : Spec := fun args => match args with
 | [.sl sz es _] => match unL unD es with
  | some l => if sz = 1 ∧ cOk l then some (.sl 1 (intsA (keptDig 8 (valB l))) (.tok 0), [(8, 3)]) else none
  | none => none
 | _ => none
def zMake : Spec := fun args => match args with
 | [.sl sz es _] => match unL unD es with
  | some l => if sz = 1 ∧ dOk l then some (wideA (valB l), []) else none
  | none => none
 | _ => none
abbrev zOf : Spec := s53
abbrev zAdd : Spec := s47
abbrev zScale : Spec := s49
abbrev zMul : Spec := s48
def shD : Sh × Option TypeId := (.val (.one (.sl 1 (.tok 0))), some 3)
def XZ : Shapes := fun f => match f with
 | 66 | 68 => some shD
 | 67 | 47 | 48 | 69 | 70 => some shW
 | 4000071 => some shD
 | _ => none
def hiZ (h : Int) : Int := h % 18446744073709551616
def zA66 (h l : Int) : Anns := ⟨fun k => match k with
 | 5 => some { α := Nat, slots := [3, 4, 5, 6], nb := 1, vals := fun i => [.sl 1 (intsA (keptDig i l)) (.tok 0), .int .u64 (l / (65536 : Int) ^ i), .int .u64 (hiZ h), .int .i64 i], sS := fun i => ⟨[some [.int .i64 h, .int .u64 l]], [((keptDig i l).length, 3)]⟩, I := fun i => i ≤ 4, μ := fun i => 4 - i, mint := [(3, 3)] }
 | 10 => some { α := Nat, slots := [3, 5, 7], nb := 1, vals := fun i => [.sl 1 (intsA (keptDig 4 l ++ keptDig i (hiZ h))) (.tok 0), .int .u64 (hiZ h / (65536 : Int) ^ i), .int .i64 i], sS := fun i => ⟨[some [.int .i64 h, .int .u64 l]], [((keptDig 4 l ++ keptDig i (hiZ h)).length, 3)]⟩, I := fun i => i ≤ 4, μ := fun i => 4 - i }
 | _ => none, nA⟩
def zA68 (l : List Int) : Anns := ⟨fun k => match k with
 | 4 => some { α := Nat, slots := [0, 3, 4, 5], nb := 0, vals := fun i => [.sl 1 (intsA l) .no, .sl 1 (intsA (keptDig i (valB l))) (.tok 0), .int .i64 (valB (l.take i) / (65536 : Int) ^ i), .int .i64 i], sS := fun i => ⟨[], [((keptDig i (valB l)).length, 3)]⟩, I := fun i => i ≤ 8, μ := fun i => 8 - i, mint := [(3, 3)] }
 | _ => none, nA⟩
def zA67 (l : List Int) : Anns := ⟨fun k => match k with
 | 4 => some { α := Nat, slots := [0, 2, 3, 4, 5], nb := 1, vals := fun j => [.sl 1 (intsA l) .no, .ptr 0 0, .int .u64 (valB ((l.take 4).drop (4 - j))), .int .u64 (valB ((l.drop 4).drop (4 - j))), .int .i64 (3 - (j : Int))], sS := fun _ => ⟨[some [.int .i64 0, .int .u64 0]], []⟩, I := fun j => j ≤ 4, μ := fun j => 4 - j }
 | _ => none, nA⟩
def keptAddTo (x y : List Int) (i : Nat) : List Int := (List.range 8).map fun j => if j < i then x.getD j 0 + y.getD j 0 else x.getD j 0
def keptAdd (x y : List Int) (i : Nat) : List AV := intsA (keptAddTo x y i)
def zA47 (h l h' l' : Int) (X Y : List Int) : Anns :=
 let B : List (Option (List AV)) := [some [.int .i64 h, .int .u64 l], some [.int .i64 h', .int .u64 l'], some [.int .i64 0, .int .u64 0]]
 ⟨fun k => match k with
 | 4 => some { α := Nat, slots := [4, 5, 6, 7], nb := 5, vals := fun i => [.ptr 2 0, .ms 3 1 8, .ms 4 1 8, .int .i64 i], sS := fun i => ⟨B ++ [some (ownC 1 (keptAdd X Y i)), some (ownC 1 (intsA Y))], []⟩, I := fun i => i ≤ 8, μ := fun i => 8 - i }
 | 1000007 => some { α := Unit, slots := [4, 5], nb := 5, vals := fun _ => [.ptr 2 0, .sl 1 (keptAdd X Y 8) .no], sS := fun _ => ⟨B ++ [some (frzC 1 (keptAdd X Y 8)), some (ownC 1 (intsA Y))], []⟩, I := fun _ => True, μ := fun _ => 0, give := [5] }
 | _ => none, nA⟩
structure KS where
 i : Nat
 k : Nat
 out : List Int
structure ScOk (X Y : List Int) (i k : Nat) (out : List Int) : Prop where
 len : out.length = 8
 bnd : ∀ j d, out[j]? = some d → 0 ≤ d ∧ d ≤ (i : Int) * 4294967296 + (if j < i + k then 4294967296 else 0)
 val : (valB out - (valB (X.take i) * valB Y + (65536 : Int) ^ i * X.getD i 0 * valB (Y.take k))) % 340282366920938463463374607431768211456 = 0
 ik : i ≤ 8
 kk : k ≤ 8
 fit : i + k ≤ 8 ∨ k = 0
def zA69 (h l : Int) (X Y : List Int) : Anns :=
 let B : List (Option (List AV)) := [some [.int .i64 h, .int .u64 l], some [.int .i64 0, .int .u64 0]]
 ⟨fun k => match k with
 | 5 => some { α := KS, slots := [4, 5, 6, 7, 8], nb := 3, vals := fun p => [.ptr 1 0, .sl 1 (intsA X) (.tok 0), .sl 1 (intsA Y) (.tok 1), .ms 2 1 8, .int .i64 p.i], sS := fun p => ⟨B ++ [some (ownC 1 (intsA p.out))], [(8, 3), (8, 3)]⟩, I := fun p => ScOk X Y p.i 0 p.out, μ := fun p => 8 - p.i }
 | 8 => some { α := KS, slots := [4, 5, 6, 7, 8, 9], nb := 3, vals := fun p => [.ptr 1 0, .sl 1 (intsA X) (.tok 0), .sl 1 (intsA Y) (.tok 1), .ms 2 1 8, .int .i64 p.i, .int .i64 p.k], sS := fun p => ⟨B ++ [some (ownC 1 (intsA p.out))], [(8, 3), (8, 3)]⟩, I := fun p => ScOk X Y p.i p.k p.out ∧ p.i < 8, μ := fun p => 8 - p.k, link := some fun T p => T[8]? = some (.int .i64 p.i) }
 | 1000011 => some { α := KS, slots := [4, 7], nb := 3, vals := fun p => [.ptr 1 0, .sl 1 (intsA p.out) .no], sS := fun p => ⟨B ++ [some (frzC 1 (intsA p.out))], [(8, 3), (8, 3)]⟩, I := fun p => ScOk X Y 8 0 p.out, μ := fun _ => 0, give := [7] }
 | _ => none, nA⟩
theorem z70 (n : Int) (r : AV) : (pureW PA GA XZ (tbl []) (itbl []) nAn [] 70 [.int .i64 n] (r, [])) =
((decide (n < (0 : Int)) = true → RetIs (AV.agg [.int .i64 (-1 : Int), .int .u64 (IntKind.u64.wrap n)]) [] (r, [])) ∧ (decide (n < (0 : Int)) = false → RetIs (AV.agg [.int .i64 0, .int .u64 (IntKind.u64.wrap n)]) [] (r, []))) := by kernel_rfl
theorem z66 (h l : Int) (r : AV × List (Nat × TypeId)) : (pureW PA GA XZ (tbl []) (itbl []) (zA66 h l) [] 66 [.agg [.int .i64 h, .int .u64 l]] r) =
((∃ (y : Nat), ValsAre [.sl 1 [] (.tok (0 : Nat)), .int .u64 l, .int .u64 (IntKind.u64.wrap h), .int .i64 0] [.sl 1 (intsA (keptDig y l)) (.tok 0), .int .u64 (l / (65536 : Int) ^ y), .int .u64 (hiZ h), .int .i64 (↑y : Int)] ∧ StIs { boxes := [some [.int .i64 h, .int .u64 l]], live := [((0 : Nat), (3 : Nat))] } { boxes := [some [.int .i64 h, .int .u64 l]], live := [((keptDig y l).length, (3 : Nat))] } ∧ y ≤ (4 : Nat) ∧ True) ∧ ∀ (x : Nat), x ≤ (4 : Nat) → (decide ((↑x : Int) < (4 : Int)) = true → (65536 : Int) ≠ (0 : Int) ∧ ((1 : Nat) = (1 : Nat) ∨ intsA (keptDig x l) = []) ∧ ((intsA (keptDig x l)).length + (1 : Nat)) * (9 : Nat) ≤ (70368744177664 : Nat) ∧ (keptDig x l).length = (intsA (keptDig x l)).length ∧ (65536 : Int) ≠ (0 : Int) ∧ ∃ (y : Nat), ValsAre [.sl 1 (intsA (keptDig x l) ++ [.int .i64 (IntKind.i64.wrap ((l / (65536 : Int) ^ x).tmod (65536 : Int)))]) (.tok 0), .int .u64 (IntKind.u64.wrap ((l / (65536 : Int) ^ x).tdiv (65536 : Int))), .int .u64 (hiZ h), .int .i64 (IntKind.i64.wrap ((↑x : Int) + (1 : Int)))] [.sl 1 (intsA (keptDig y l)) (.tok 0), .int .u64 (l / (65536 : Int) ^ y), .int .u64 (hiZ h), .int .i64 (↑y : Int)] ∧ StIs { boxes := [some [.int .i64 h, .int .u64 l]], live := [((intsA (keptDig x l)).length + (1 : Nat), (3 : Nat))] } { boxes := [some [.int .i64 h, .int .u64 l]], live := [((keptDig y l).length, (3 : Nat))] } ∧ y ≤ (4 : Nat) ∧ (4 : Nat) - y < (4 : Nat) - x) ∧ (decide ((↑x : Int) < (4 : Int)) = false → (∃ (y : Nat), ValsAre [.sl 1 (intsA (keptDig x l)) (.tok 0), .int .u64 (hiZ h), .int .i64 0]
 [.sl 1 (intsA (keptDig (4 : Nat) l ++ keptDig y (hiZ h))) (.tok 0), .int .u64 (hiZ h / (65536 : Int) ^ y), .int .i64 (↑y : Int)] ∧ StIs { boxes := [some [.int .i64 h, .int .u64 l]], live := [((keptDig x l).length, (3 : Nat))] } { boxes := [some [.int .i64 h, .int .u64 l]], live := [((keptDig (4 : Nat) l ++ keptDig y (hiZ h)).length, (3 : Nat))] } ∧ y ≤ (4 : Nat) ∧ True) ∧ ∀ (x : Nat), x ≤ (4 : Nat) → (decide ((↑x : Int) < (4 : Int)) = true → (65536 : Int) ≠ (0 : Int) ∧ ((1 : Nat) = (1 : Nat) ∨ intsA (keptDig (4 : Nat) l ++ keptDig x (hiZ h)) = []) ∧ ((intsA (keptDig (4 : Nat) l ++ keptDig x (hiZ h))).length + (1 : Nat)) * (9 : Nat) ≤ (70368744177664 : Nat) ∧ (keptDig (4 : Nat) l ++ keptDig x (hiZ h)).length = (intsA (keptDig (4 : Nat) l ++ keptDig x (hiZ h))).length ∧ (65536 : Int) ≠ (0 : Int) ∧ ∃ (y : Nat), ValsAre [.sl 1 (intsA (keptDig (4 : Nat) l ++ keptDig x (hiZ h)) ++ [.int .i64 (IntKind.i64.wrap ((hiZ h / (65536 : Int) ^ x).tmod (65536 : Int)))]) (.tok 0), .int .u64 (IntKind.u64.wrap ((hiZ h / (65536 : Int) ^ x).tdiv (65536 : Int))), .int .i64 (IntKind.i64.wrap ((↑x : Int) + (1 : Int)))] [.sl 1 (intsA (keptDig (4 : Nat) l ++ keptDig y (hiZ h))) (.tok 0), .int .u64 (hiZ h / (65536 : Int) ^ y), .int .i64 (↑y : Int)] ∧ StIs { boxes := [some [.int .i64 h, .int .u64 l]], live := [((intsA (keptDig (4 : Nat) l ++ keptDig x (hiZ h))).length + (1 : Nat), (3 : Nat))] } { boxes := [some [.int .i64 h, .int .u64 l]], live := [((keptDig (4 : Nat) l ++ keptDig y (hiZ h)).length, (3 : Nat))] } ∧
 y ≤ (4 : Nat) ∧ (4 : Nat) - y < (4 : Nat) - x) ∧ (decide ((↑x : Int) < (4 : Int)) = false → ((keptDig (4 : Nat) l ++ keptDig x (hiZ h)).length, (3 : Nat)).fst = (intsA (keptDig (4 : Nat) l ++ keptDig x (hiZ h))).length ∧ RetIs (AV.sl 1 (intsA (keptDig (4 : Nat) l ++ keptDig x (hiZ h))) (.tok 0)) [((keptDig (4 : Nat) l ++ keptDig x (hiZ h)).length, (3 : Nat))] r))) := by kernel_rfl
theorem z68 (l : List Int) (r : AV × List (Nat × TypeId)) : (pureW PA GA XZ (tbl []) (itbl []) (zA68 l) [] 68 [.sl 1 (intsA l) .no] r) =
((∃ (y : Nat), ValsAre [.sl 1 (intsA l) .no, .sl 1 [] (.tok 0), .int .i64 0, .int .i64 0] [.sl 1 (intsA l) .no, .sl 1 (intsA (keptDig y (valB l))) (.tok 0), .int .i64 (valB (List.take y l) / (65536 : Int) ^ y), .int .i64 (↑y : Int)] ∧ StIs { boxes := [], live := [((0 : Nat), (3 : Nat))] } { boxes := [], live := [((keptDig y (valB l)).length, (3 : Nat))] } ∧ y ≤ (8 : Nat) ∧ True) ∧ ∀ (x : Nat), x ≤ (8 : Nat) → (decide ((↑x : Int) < (8 : Int)) = true → (0 ≤ (↑x : Int) ∧ (↑x : Int) < (↑(intsA l).length : Int)) ∧ ∃ (n : Int), takeAt PA 3 (intsA l) (↑x : Int).toNat 0 = some (AV.int IntKind.i64 n) ∧ (65536 : Int) ≠ (0 : Int) ∧ (65536 : Int) ≠ (0 : Int) ∧ (decide ((IntKind.i64.wrap (n + valB (List.take x l) / (65536 : Int) ^ x)).tmod (65536 : Int) < (0 : Int)) = true → ((1 : Nat) = (1 : Nat) ∨ intsA (keptDig x (valB l)) = []) ∧ ((intsA (keptDig x (valB l))).length + (1 : Nat)) * (9 : Nat) ≤ (70368744177664 : Nat) ∧ (keptDig x (valB l)).length = (intsA (keptDig x (valB l))).length ∧ ∃ (y : Nat), ValsAre [.sl 1 (intsA l) .no, .sl 1 (intsA (keptDig x (valB l)) ++ [.int .i64 (IntKind.i64.wrap ((IntKind.i64.wrap (n + valB (List.take x l) / (65536 : Int) ^ x)).tmod (65536 : Int) + (65536 : Int)))]) (.tok 0), .int .i64 (IntKind.i64.wrap (IntKind.i64.wrap ((IntKind.i64.wrap (n + valB (List.take x l) / (65536 : Int) ^ x)).tdiv (65536 : Int)) - (1 : Int))), .int .i64 (IntKind.i64.wrap ((↑x : Int) + (1 : Int)))] [.sl 1 (intsA l) .no, .sl 1 (intsA (keptDig y (valB l))) (.tok 0), .int .i64 (valB (List.take y l) / (65536 : Int) ^ y), .int .i64 (↑y : Int)] ∧
 StIs { boxes := [], live := [((intsA (keptDig x (valB l))).length + (1 : Nat), (3 : Nat))] } { boxes := [], live := [((keptDig y (valB l)).length, (3 : Nat))] } ∧ y ≤ (8 : Nat) ∧ (8 : Nat) - y < (8 : Nat) - x) ∧ (decide ((IntKind.i64.wrap (n + valB (List.take x l) / (65536 : Int) ^ x)).tmod (65536 : Int) < (0 : Int)) = false → ((1 : Nat) = (1 : Nat) ∨ intsA (keptDig x (valB l)) = []) ∧ ((intsA (keptDig x (valB l))).length + (1 : Nat)) * (9 : Nat) ≤ (70368744177664 : Nat) ∧ (keptDig x (valB l)).length = (intsA (keptDig x (valB l))).length ∧ ∃ (y : Nat), ValsAre [.sl 1 (intsA l) .no, .sl 1 (intsA (keptDig x (valB l)) ++ [.int .i64 ((IntKind.i64.wrap (n + valB (List.take x l) / (65536 : Int) ^ x)).tmod (65536 : Int))]) (.tok 0), .int .i64 (IntKind.i64.wrap ((IntKind.i64.wrap (n + valB (List.take x l) / (65536 : Int) ^ x)).tdiv (65536 : Int))), .int .i64 (IntKind.i64.wrap ((↑x : Int) + (1 : Int)))] [.sl 1 (intsA l) .no, .sl 1 (intsA (keptDig y (valB l))) (.tok 0), .int .i64 (valB (List.take y l) / (65536 : Int) ^ y), .int .i64 (↑y : Int)] ∧ StIs { boxes := [], live := [((intsA (keptDig x (valB l))).length + (1 : Nat), (3 : Nat))] } { boxes := [], live := [((keptDig y (valB l)).length, (3 : Nat))] } ∧ y ≤ (8 : Nat) ∧ (8 : Nat) - y < (8 : Nat) - x)) ∧ (decide ((↑x : Int) < (8 : Int)) = false → ((keptDig x (valB l)).length, (3 : Nat)).fst = (intsA (keptDig x (valB l))).length ∧ RetIs (AV.sl 1 (intsA (keptDig x (valB l))) (.tok 0)) [((keptDig x (valB l)).length, (3 : Nat))] r)) := by kernel_rfl
theorem z67 (l : List Int) (r : AV) : (pureW PA GA XZ (tbl []) (itbl []) (zA67 l) [] 67 [.sl 1 (intsA l) .no] (r, [])) =
((∃ (y : Nat), ValsAre [.sl 1 (intsA l) .no, .ptr 0 0, .int .u64 0, .int .u64 0, .int .i64 3] [.sl 1 (intsA l) .no, .ptr 0 0, .int .u64 (valB (List.drop ((4 : Nat) - y) (List.take 4 l))), .int .u64 (valB (List.drop ((4 : Nat) - y) (List.drop 4 l))), .int .i64 ((3 : Int) - (↑y : Int))] ∧ StIs { boxes := [some [.int .i64 0, .int .u64 0]], live := [] } { boxes := [some [.int .i64 0, .int .u64 0]], live := [] } ∧ y ≤ (4 : Nat) ∧ True) ∧ ∀ (x : Nat), x ≤ (4 : Nat) → (decide ((3 : Int) - (↑x : Int) ≥ (0 : Int)) = true → ((0 : Int) ≤ (3 : Int) - (↑x : Int) ∧ (3 : Int) - (↑x : Int) < (↑(intsA l).length : Int)) ∧ ∃ (n : Int), takeAt PA 3 (intsA l) ((3 : Int) - (↑x : Int)).toNat 0 = some (AV.int IntKind.i64 n) ∧ ((0 : Int) ≤ IntKind.i64.wrap ((3 : Int) - (↑x : Int) + (4 : Int)) ∧ IntKind.i64.wrap ((3 : Int) - (↑x : Int) + (4 : Int)) < (↑(intsA l).length : Int)) ∧ ∃ (n_1 : Int), takeAt PA 3 (intsA l) (IntKind.i64.wrap ((3 : Int) - (↑x : Int) + (4 : Int))).toNat 0 = some (AV.int IntKind.i64 n_1) ∧ ∃ (y : Nat), ValsAre [.sl 1 (intsA l) .no, .ptr 0 0, .int .u64 (IntKind.u64.wrap (IntKind.u64.wrap (valB (List.drop ((4 : Nat) - x) (List.take 4 l)) * (65536 : Int)) + IntKind.u64.wrap n)), .int .u64 (IntKind.u64.wrap (IntKind.u64.wrap (valB (List.drop ((4 : Nat) - x) (List.drop 4 l)) * (65536 : Int)) + IntKind.u64.wrap n_1)), .int .i64 (IntKind.i64.wrap ((3 : Int) - (↑x : Int) - (1 : Int)))] [.sl 1 (intsA l) .no, .ptr 0 0, .int .u64 (valB (List.drop ((4 : Nat) - y) (List.take 4 l))), .int .u64 (valB (List.drop ((4 : Nat) - y) (List.drop 4 l))), .int .i64 ((3 : Int) - (↑y : Int))] ∧
 StIs { boxes := [some [.int .i64 0, .int .u64 0]], live := [] } { boxes := [some [.int .i64 0, .int .u64 0]], live := [] } ∧ y ≤ (4 : Nat) ∧ (4 : Nat) - y < (4 : Nat) - x) ∧ (decide ((3 : Int) - (↑x : Int) ≥ (0 : Int)) = false → RetIs (AV.agg [.int .i64 (IntKind.i64.wrap (valB (List.drop ((4 : Nat) - x) (List.drop 4 l)))), .int .u64 (valB (List.drop ((4 : Nat) - x) (List.take 4 l)))]) [] (r, []))) := by kernel_rfl
theorem z47 (h l h' l' : Int) (X Y : List Int) (r : AV) : (pureW PA GA XZ (tbl [(68, zCarry), (67, zMake)]) (itbl [(66, zDigM)]) (zA47 h l h' l' X Y) [] 47 [.agg [.int .i64 h, .int .u64 l], .agg [.int .i64 h', .int .u64 l']] (r, [])) =
(((-9223372036854775808 : Int) ≤ h ∧ h < (9223372036854775808 : Int) ∧ (0 : Int) ≤ l ∧ l < (18446744073709551616 : Int)) ∧ ((-9223372036854775808 : Int) ≤ h' ∧ h' < (9223372036854775808 : Int) ∧ (0 : Int) ≤ l' ∧ l' < (18446744073709551616 : Int)) ∧ ((∃ (y : Nat), ValsAre [.ptr 2 0, .ms 3 1 8, .ms 4 1 8, .int .i64 0] [.ptr 2 0, .ms 3 1 8, .ms 4 1 8, .int .i64 (↑y : Int)] ∧ StIs { boxes := [some [.int .i64 h, .int .u64 l], some [.int .i64 h', .int .u64 l'], some [.int .i64 0, .int .u64 0], some [.tup [.bool true, .sl 1 [.int .i64 (wv h l / (1 : Int) % (65536 : Int)), .int .i64 (wv h l / (65536 : Int) % (65536 : Int)), .int .i64 (wv h l / (4294967296 : Int) % (65536 : Int)), .int .i64 (wv h l / (281474976710656 : Int) % (65536 : Int)), .int .i64 (wv h l / (18446744073709551616 : Int) % (65536 : Int)), .int .i64 (wv h l / (1208925819614629174706176 : Int) % (65536 : Int)), .int .i64 (wv h l / (79228162514264337593543950336 : Int) % (65536 : Int)), .int .i64 (wv h l / (5192296858534827628530496329220096 : Int) % (65536 : Int))] .no]], some [.tup [.bool true, .sl 1 [.int .i64 (wv h' l' / (1 : Int) % (65536 : Int)), .int .i64 (wv h' l' / (65536 : Int) % (65536 : Int)), .int .i64 (wv h' l' / (4294967296 : Int) % (65536 : Int)), .int .i64 (wv h' l' / (281474976710656 : Int) % (65536 : Int)), .int .i64 (wv h' l' / (18446744073709551616 : Int) % (65536 : Int)), .int .i64 (wv h' l' / (1208925819614629174706176 : Int) % (65536 : Int)), .int .i64 (wv h' l' / (79228162514264337593543950336 : Int) % (65536 : Int)), .int .i64 (wv h' l' / (5192296858534827628530496329220096 : Int) % (65536 : Int))] .no]]], live := [] }
 { boxes := [some [.int .i64 h, .int .u64 l], some [.int .i64 h', .int .u64 l'], some [.int .i64 0, .int .u64 0], some [.tup [.bool true, .sl 1 (keptAdd X Y y) .no]], some [.tup [.bool true, .sl 1 (intsA Y) .no]]], live := [] } ∧ y ≤ (8 : Nat) ∧ True) ∧ ∀ (x : Nat), x ≤ (8 : Nat) → (decide ((↑x : Int) < (8 : Int)) = true → (0 ≤ (↑x : Int) ∧ (↑x : Int) < (8 : Int)) ∧ ∃ (n : Int), takeAt PA 3 (keptAdd X Y x) (↑x : Int).toNat 0 = some (AV.int IntKind.i64 n) ∧ (0 ≤ (↑x : Int) ∧ (↑x : Int) < (8 : Int)) ∧ ∃ (n_1 : Int), takeAt PA 3 (intsA Y) (↑x : Int).toNat 0 = some (AV.int IntKind.i64 n_1) ∧ (0 ≤ (↑x : Int) ∧ (↑x : Int) < (8 : Int)) ∧ (↑x : Int).toNat < (8 : Nat) ∧ ∃ (y : Nat), ValsAre [.ptr 2 0, .ms 3 1 8, .ms 4 1 8, .int .i64 (IntKind.i64.wrap ((↑x : Int) + (1 : Int)))] [.ptr 2 0, .ms 3 1 8, .ms 4 1 8, .int .i64 (↑y : Int)] ∧ StIs { boxes := [some [.int .i64 h, .int .u64 l], some [.int .i64 h', .int .u64 l'], some [.int .i64 0, .int .u64 0], some [.tup [.bool true, .sl 1 ((keptAdd X Y x).set (↑x : Int).toNat (keptSetC ((keptAdd X Y x).getD (↑x : Int).toNat AV.junk) 0 [.int .i64 (IntKind.i64.wrap (n + n_1))])) .no]], some [.tup [.bool true, .sl 1 (intsA Y) .no]]], live := [] } { boxes := [some [.int .i64 h, .int .u64 l], some [.int .i64 h', .int .u64 l'], some [.int .i64 0, .int .u64 0], some [.tup [.bool true, .sl 1 (keptAdd X Y y) .no]], some [.tup [.bool true, .sl 1 (intsA Y) .no]]], live := [] } ∧ y ≤ (8 : Nat) ∧ (8 : Nat) - y < (8 : Nat) - x) ∧ (decide ((↑x : Int) < (8 : Int)) = false →
 (8 : Nat) = (8 : Nat) ∧ ∃ (_y : Unit), ValsAre [.ptr 2 0, .sl 1 (keptAdd X Y x) .no] [.ptr 2 0, .sl 1 (keptAdd X Y (8 : Nat)) .no] ∧ StIs { boxes := [some [.int .i64 h, .int .u64 l], some [.int .i64 h', .int .u64 l'], some [.int .i64 0, .int .u64 0], some [.tup [.bool false, .sl 1 (keptAdd X Y x) .no]], some [.tup [.bool true, .sl 1 (intsA Y) .no]]], live := [] } { boxes := [some [.int .i64 h, .int .u64 l], some [.int .i64 h', .int .u64 l'], some [.int .i64 0, .int .u64 0], some [.tup [.bool false, .sl 1 (keptAdd X Y (8 : Nat)) .no]], some [.tup [.bool true, .sl 1 (intsA Y) .no]]], live := [] } ∧ True ∧ True)) ∧ ∀ (_x : Unit), True → True → ∃ (es : List AV), CallIs (tbl [((68 : Nat), zCarry), ((67 : Nat), zMake)] 68 [.sl 1 (keptAdd X Y (8 : Nat)) .no]) (AV.sl 1 es (.tok 0)) [(es.length, (3 : Nat))] ∧ ∃ (n : Int) (n_1 : Int), CallIs (tbl [((68 : Nat), zCarry), ((67 : Nat), zMake)] 67 [.sl 1 es .no]) (AV.agg [.int .i64 n, .int .u64 n_1]) [] ∧ RetIs (AV.agg [.int .i64 n, .int .u64 n_1]) [] (r, [])) := by kernel_rfl
theorem z69 (h l n : Int) (X Y : List Int) (r : AV) : (pureW PA GA XZ (tbl [(66, zDig), (70, zOf), (68, zCarry), (67, zMake)]) (itbl []) (zA69 h l X Y) [] 69 [.agg [.int .i64 h, .int .u64 l], .int .i64 n] (r, [])) =
(∃ (es : List AV), CallIs (tbl [((66 : Nat), zDig), ((70 : Nat), zOf), ((68 : Nat), zCarry), ((67 : Nat), zMake)] 66 [.agg [.int .i64 h, .int .u64 l]]) (AV.sl 1 es (.tok 0)) [(es.length, (3 : Nat))] ∧ ∃ (n_1 : Int) (n_2 : Int), CallIs (tbl [((66 : Nat), zDig), ((70 : Nat), zOf), ((68 : Nat), zCarry), ((67 : Nat), zMake)] 70 [.int .i64 n]) (AV.agg [.int .i64 n_1, .int .u64 n_2]) [] ∧ ∃ (es_1 : List AV), CallIs (tbl [((66 : Nat), zDig), ((70 : Nat), zOf), ((68 : Nat), zCarry), ((67 : Nat), zMake)] 66 [.agg [.int .i64 n_1, .int .u64 n_2]]) (AV.sl 1 es_1 (.tok 0)) [(es_1.length, (3 : Nat))] ∧ ((0 : Int) ≤ (8 : Int) ∧ (8 : Int) ≤ (8 : Int) ∧ (72 : Int) ≤ (70368744177664 : Int)) ∧ ((∃ (y : KS), ValsAre [.ptr 1 0, .sl 1 es (.tok 0), .sl 1 es_1 (.tok 1), .ms 2 1 8, .int .i64 0] [.ptr 1 0, .sl 1 (intsA X) (.tok 0), .sl 1 (intsA Y) (.tok 1), .ms 2 1 8, .int .i64 (↑y.i : Int)] ∧ StIs { boxes := [some [.int .i64 h, .int .u64 l], some [.int .i64 0, .int .u64 0], some [.tup [.bool true, .sl 1 [.int .i64 0, .int .i64 0, .int .i64 0, .int .i64 0, .int .i64 0, .int .i64 0, .int .i64 0, .int .i64 0] .no]]], live := [(es.length, (3 : Nat)), (es_1.length, (3 : Nat))] } { boxes := [some [.int .i64 h, .int .u64 l], some [.int .i64 0, .int .u64 0], some [.tup [.bool true, .sl 1 (intsA y.out) .no]]], live := [((8 : Nat), (3 : Nat)), ((8 : Nat), (3 : Nat))] } ∧ ScOk X Y y.i (0 : Nat) y.out ∧ True) ∧ ∀ (x : KS), ScOk X Y x.i (0 : Nat) x.out → (decide ((↑x.i : Int) < (8 : Int)) = true → (∃ (y : KS), ValsAre
 [.ptr 1 0, .sl 1 (intsA X) (.tok 0), .sl 1 (intsA Y) (.tok 1), .ms 2 1 8, .int .i64 (↑x.i : Int), .int .i64 0] [.ptr 1 0, .sl 1 (intsA X) (.tok 0), .sl 1 (intsA Y) (.tok 1), .ms 2 1 8, .int .i64 (↑y.i : Int), .int .i64 (↑y.k : Int)] ∧ StIs { boxes := [some [.int .i64 h, .int .u64 l], some [.int .i64 0, .int .u64 0], some [.tup [.bool true, .sl 1 (intsA x.out) .no]]], live := [((8 : Nat), (3 : Nat)), ((8 : Nat), (3 : Nat))] } { boxes := [some [.int .i64 h, .int .u64 l], some [.int .i64 0, .int .u64 0], some [.tup [.bool true, .sl 1 (intsA y.out) .no]]], live := [((8 : Nat), (3 : Nat)), ((8 : Nat), (3 : Nat))] } ∧ (ScOk X Y y.i y.k y.out ∧ y.i < (8 : Nat)) ∧ some (AV.int IntKind.i64 (↑x.i : Int)) = some (AV.int IntKind.i64 (↑y.i : Int))) ∧ ∀ (x_1 : KS), ScOk X Y x_1.i x_1.k x_1.out ∧ x_1.i < (8 : Nat) → some (AV.int IntKind.i64 (↑x.i : Int)) = some (AV.int IntKind.i64 (↑x_1.i : Int)) → (decide (IntKind.i64.wrap ((↑x_1.i : Int) + (↑x_1.k : Int)) < (8 : Int)) = true → ((0 : Int) ≤ IntKind.i64.wrap ((↑x_1.i : Int) + (↑x_1.k : Int)) ∧ IntKind.i64.wrap ((↑x_1.i : Int) + (↑x_1.k : Int)) < (8 : Int)) ∧ ∃ (n : Int), takeAt PA 3 (intsA x_1.out) (IntKind.i64.wrap ((↑x_1.i : Int) + (↑x_1.k : Int))).toNat 0 = some (AV.int IntKind.i64 n) ∧ (0 ≤ (↑x_1.i : Int) ∧ (↑x_1.i : Int) < (↑(intsA X).length : Int)) ∧ ∃ (n_3 : Int), takeAt PA 3 (intsA X) (↑x_1.i : Int).toNat 0 = some (AV.int IntKind.i64 n_3) ∧ (0 ≤ (↑x_1.k : Int) ∧ (↑x_1.k : Int) < (↑(intsA Y).length : Int)) ∧ ∃ (n_4 : Int), takeAt PA 3 (intsA Y) (↑x_1.k : Int).toNat 0 = some (AV.int IntKind.i64 n_4) ∧
 ((0 : Int) ≤ IntKind.i64.wrap ((↑x_1.i : Int) + (↑x_1.k : Int)) ∧ IntKind.i64.wrap ((↑x_1.i : Int) + (↑x_1.k : Int)) < (8 : Int)) ∧ (IntKind.i64.wrap ((↑x_1.i : Int) + (↑x_1.k : Int))).toNat < (intsA x_1.out).length ∧ ∃ (y : KS), ValsAre [.ptr 1 0, .sl 1 (intsA X) (.tok 0), .sl 1 (intsA Y) (.tok 1), .ms 2 1 8, .int .i64 (↑x_1.i : Int), .int .i64 (IntKind.i64.wrap ((↑x_1.k : Int) + (1 : Int)))] [.ptr 1 0, .sl 1 (intsA X) (.tok 0), .sl 1 (intsA Y) (.tok 1), .ms 2 1 8, .int .i64 (↑y.i : Int), .int .i64 (↑y.k : Int)] ∧ StIs { boxes := [some [.int .i64 h, .int .u64 l], some [.int .i64 0, .int .u64 0], some [.tup [.bool true, .sl 1 ((intsA x_1.out).set (IntKind.i64.wrap ((↑x_1.i : Int) + (↑x_1.k : Int))).toNat (keptSetC ((intsA x_1.out).getD (IntKind.i64.wrap ((↑x_1.i : Int) + (↑x_1.k : Int))).toNat AV.junk) 0 [.int .i64 (IntKind.i64.wrap (n + IntKind.i64.wrap (n_3 * n_4)))])) .no]]], live := [((8 : Nat), (3 : Nat)), ((8 : Nat), (3 : Nat))] } { boxes := [some [.int .i64 h, .int .u64 l], some [.int .i64 0, .int .u64 0], some [.tup [.bool true, .sl 1 (intsA y.out) .no]]], live := [((8 : Nat), (3 : Nat)), ((8 : Nat), (3 : Nat))] } ∧ (ScOk X Y y.i y.k y.out ∧ y.i < (8 : Nat)) ∧ some (AV.int IntKind.i64 (↑x.i : Int)) = some (AV.int IntKind.i64 (↑y.i : Int)) ∧ (8 : Nat) - y.k < (8 : Nat) - x_1.k) ∧ (decide (IntKind.i64.wrap ((↑x_1.i : Int) + (↑x_1.k : Int)) < (8 : Int)) = false → ∃ (y : KS), ValsAre [.ptr 1 0, .sl 1 (intsA X) (.tok 0), .sl 1 (intsA Y) (.tok 1), .ms 2 1 8, .int .i64 (IntKind.i64.wrap ((↑x_1.i : Int) + (1 : Int)))]
 [.ptr 1 0, .sl 1 (intsA X) (.tok 0), .sl 1 (intsA Y) (.tok 1), .ms 2 1 8, .int .i64 (↑y.i : Int)] ∧ StIs { boxes := [some [.int .i64 h, .int .u64 l], some [.int .i64 0, .int .u64 0], some [.tup [.bool true, .sl 1 (intsA x_1.out) .no]]], live := [((8 : Nat), (3 : Nat)), ((8 : Nat), (3 : Nat))] } { boxes := [some [.int .i64 h, .int .u64 l], some [.int .i64 0, .int .u64 0], some [.tup [.bool true, .sl 1 (intsA y.out) .no]]], live := [((8 : Nat), (3 : Nat)), ((8 : Nat), (3 : Nat))] } ∧ ScOk X Y y.i (0 : Nat) y.out ∧ (8 : Nat) - y.i < (8 : Nat) - x.i)) ∧ (decide ((↑x.i : Int) < (8 : Int)) = false → (intsA x.out).length = (8 : Nat) ∧ ∃ (y : KS), ValsAre [.ptr 1 0, .sl 1 (intsA x.out) .no] [.ptr 1 0, .sl 1 (intsA y.out) .no] ∧ StIs { boxes := [some [.int .i64 h, .int .u64 l], some [.int .i64 0, .int .u64 0], some [.tup [.bool false, .sl 1 (intsA x.out) .no]]], live := [((8 : Nat), (3 : Nat)), ((8 : Nat), (3 : Nat))] } { boxes := [some [.int .i64 h, .int .u64 l], some [.int .i64 0, .int .u64 0], some [.tup [.bool false, .sl 1 (intsA y.out) .no]]], live := [((8 : Nat), (3 : Nat)), ((8 : Nat), (3 : Nat))] } ∧ ScOk X Y (8 : Nat) (0 : Nat) y.out ∧ True)) ∧ ∀ (x : KS), ScOk X Y (8 : Nat) (0 : Nat) x.out → True → ∃ (es : List AV), CallIs (tbl [((66 : Nat), zDig), ((70 : Nat), zOf), ((68 : Nat), zCarry), ((67 : Nat), zMake)] 68 [.sl 1 (intsA x.out) .no]) (AV.sl 1 es (.tok 0)) [(es.length, (3 : Nat))] ∧ ∃ (n : Int) (n_3 : Int), CallIs (tbl [((66 : Nat), zDig), ((70 : Nat), zOf), ((68 : Nat), zCarry), ((67 : Nat), zMake)] 67
 [.sl 1 es .no]) (AV.agg [.int .i64 n, .int .u64 n_3]) [] ∧ RetIs (AV.agg [.int .i64 n, .int .u64 n_3]) [] (r, [])) := by kernel_rfl
theorem z48 (a b : Int) (r : AV) : (pureW PA GA XZ (tbl [(70, zOf), (69, zScale)]) (itbl []) nAn [] 48 [.int .i64 a, .int .i64 b] (r, [])) =
(∃ (n : Int) (n_1 : Int), CallIs (tbl [((70 : Nat), zOf), ((69 : Nat), zScale)] 70 [.int .i64 a]) (AV.agg [.int .i64 n, .int .u64 n_1]) [] ∧ ∃ (n_2 : Int) (n_3 : Int), CallIs (tbl [((70 : Nat), zOf), ((69 : Nat), zScale)] 69 [.agg [.int .i64 n, .int .u64 n_1], .int .i64 b]) (AV.agg [.int .i64 n_2, .int .u64 n_3]) [] ∧ RetIs (AV.agg [.int .i64 n_2, .int .u64 n_3]) [] (r, [])) := by kernel_rfl
theorem dig_succ (i : Nat) (x : Int) : keptDig (i + 1) x = keptDig i x ++ [x / (65536 : Int) ^ i % 65536] := by
 unfold keptDig; rw [List.range_succ, List.map_append]; rfl
theorem dig_len (n : Nat) (x : Int) : (keptDig n x).length = n := by simp [keptDig]
theorem pow_pos' (n : Nat) : (0 : Int) < 65536 ^ n := Int.pow_pos (by omega)
theorem valB_app : ∀ a b : List Int, valB (a ++ b) = valB a + 65536 ^ a.length * valB b
 | [], b => by simp [valB]
 | d :: a, b => by
  have := valB_app a b
  simp only [List.cons_append, valB, List.length_cons, this, Int.pow_succ, Int.mul_add]
  rw [Int.mul_comm (65536 ^ a.length) 65536, Int.mul_assoc]; omega
theorem mod_step (x p : Int) (hp : 0 < p) : x % (p * 65536) = x % p + p * (x / p % 65536) := by
 have h1 := Int.mul_ediv_add_emod x p
 have h2 := Int.mul_ediv_add_emod (x / p) 65536
 have h3 := Int.emod_nonneg x (Int.ne_of_gt hp)
 have h4 := Int.emod_lt_of_pos x hp
 have h5 : 0 ≤ x / p % 65536 := by omega
 have h6 : x / p % 65536 ≤ 65535 := by omega
 have e : x = x % p + p * (x / p % 65536) + p * 65536 * (x / p / 65536) := by
  conv => lhs; rw [← h1]
  conv => lhs; rw [← h2]
  rw [Int.mul_add, Int.mul_assoc]; omega
 conv => lhs; rw [e]
 rw [Int.add_mul_emod_self_left]
 have h7 : p * (x / p % 65536) ≤ p * 65535 := Int.mul_le_mul_of_nonneg_left h6 (by omega)
 have h8 : 0 ≤ p * (x / p % 65536) := Int.mul_nonneg (by omega) h5
 exact Int.emod_eq_of_lt (by omega) (by omega)
theorem valB_dig (n : Nat) (x : Int) : valB (keptDig n x) = x % 65536 ^ n := by
 induction n with
 | zero => simp [keptDig, valB]
 | succ n ih =>
  rw [dig_succ, valB_app, ih, dig_len, Int.pow_succ, mod_step _ _ (pow_pos' n)]
  simp [valB]
theorem div_step (x : Int) (n : Nat) : x / 65536 ^ n / 65536 = x / 65536 ^ (n + 1) := by
 rw [Int.pow_succ, Int.ediv_ediv_of_nonneg (Int.le_of_lt (pow_pos' n))]
theorem dig8 (x : Int) : keptDig 8 x = [x / 1 % 65536, x / 65536 % 65536, x / 4294967296 % 65536, x / 281474976710656 % 65536, x / 18446744073709551616 % 65536, x / 1208925819614629174706176 % 65536, x / 79228162514264337593543950336 % 65536, x / 5192296858534827628530496329220096 % 65536] := rfl
theorem dig4 (x : Int) : keptDig 4 x = [x / 1 % 65536, x / 65536 % 65536, x / 4294967296 % 65536, x / 281474976710656 % 65536] := rfl
theorem dig_wide {h l : Int} (hw : wOk h l) : keptDig 4 l ++ keptDig 4 (hiZ h) = keptDig 8 (wv h l) := by
 obtain ⟨a1, a2, a3, a4⟩ := hw
 rw [dig4, dig4, dig8]
 unfold hiZ wv
 simp only [List.cons_append, List.nil_append, List.cons.injEq, and_true]
 refine ⟨?_, ?_, ?_, ?_, ?_, ?_, ?_, ?_⟩ <;> omega
theorem dig_mem {n : Nat} {x d : Int} (h : d ∈ keptDig n x) : 0 ≤ d ∧ d < 65536 := by
 unfold keptDig at h
 obtain ⟨i, _, rfl⟩ := List.mem_map.1 h
 omega
theorem dig_ok (x : Int) : dOk (keptDig 8 x) := ⟨dig_len 8 x, fun _ h => dig_mem h⟩
theorem aggD3 : aggA PA 3 = some false := by kernel_rfl
theorem sizeD3 : (sizeA PA 3).isSome = true := by kernel_rfl
theorem take_i {l : List Int} {i : Nat} {d : Int} (h : l[i]? = some d) : takeAt PA 3 (intsA l) i 0 = some (.int .i64 d) := take_one aggD3 sizeD3 (by rw [List.getElem?_map, h]; rfl) rfl
theorem q70z (n : Int) (hn : iOk n) : PureOk PA GA XZ (tbl []) (itbl []) nAn [] 70 [.int .i64 n] (wideA n, []) := by
 constructor
 rw [z70]
 unfold iOk at hn
 refine ⟨fun h => retIs_iff.2 ?_, fun h => retIs_iff.2 ?_⟩
 ·have h := of_decide_eq_true h
  unfold wideA
  rw [wrapU, show n / 18446744073709551616 = -1 by omega]; rfl
 ·have h := of_decide_eq_false h
  unfold wideA
  rw [wrapU, show n / 18446744073709551616 = 0 by omega]; rfl
theorem tdm {x : Int} (h : 0 ≤ x) : x.tdiv 65536 = x / 65536 ∧ x.tmod 65536 = x % 65536 := ⟨Int.tdiv_eq_ediv_of_nonneg h, Int.tmod_eq_emod_of_nonneg h⟩
theorem tdm_neg {x : Int} (h : x < 0) : x.tdiv 65536 = -((-x) / 65536) ∧ x.tmod 65536 = -((-x) % 65536) := by
 have h1 := (@tdm (-x) (by omega)).1
 have h2 := (@tdm (-x) (by omega)).2
 rw [Int.neg_tdiv] at h1
 rw [Int.neg_tmod] at h2
 omega
theorem q66z (h l : Int) (hw : wOk h l) : PureOk PA GA XZ (tbl []) (itbl []) (zA66 h l) [] 66 [.agg [.int .i64 h, .int .u64 l]] (.sl 1 (intsA (keptDig 8 (wv h l))) (.tok 0), [(8, 3)]) := by
 constructor
 rw [z66]
 have hw' := hw
 obtain ⟨b1, b2, b3, b4⟩ := hw'
 have hS : ∀ {S : St}, StIs S S := stIs_iff.2 rfl
 have hlen : ∀ x : List Int, (intsA x).length = x.length := fun x => List.length_map ..
 have hH : 0 ≤ hiZ h ∧ hiZ h < 18446744073709551616 := by unfold hiZ; omega
 have one : ∀ {u : Int} {x : Nat}, 0 ≤ u → u < 18446744073709551616 → IntKind.i64.wrap ((u / 65536 ^ x).tmod 65536) = u / 65536 ^ x % 65536 ∧ IntKind.u64.wrap ((u / 65536 ^ x).tdiv 65536) = u / 65536 ^ (x + 1) := fun {u x} h0 h1 => by
  have h2 : 0 ≤ u / 65536 ^ x := Int.ediv_nonneg h0 (Int.le_of_lt (pow_pos' x))
  have h3 : u / 65536 ^ x ≤ u := Int.ediv_le_self _ h0
  rw [(tdm h2).1, (tdm h2).2, ← div_step]
  generalize u / 65536 ^ x = q at *
  exact ⟨wrap64_in (by omega) (by omega), by rw [wrapU]; omega⟩
 have ints_snoc : ∀ (a : List Int) (d : Int), intsA a ++ [AV.int .i64 d] = intsA (a ++ [d]) := fun a d => by simp [intsA]
 refine ⟨⟨0, valsAre_iff.2 ?_, stIs_iff.2 rfl, Nat.zero_le _, trivial⟩, fun x hx => ⟨fun hlt => ?_, fun hlt => ?_⟩⟩
 ·rw [wrapU]; simp [keptDig, hiZ]
 ·have hlt := of_decide_eq_true hlt
  obtain ⟨e1, e2⟩ := one (x := x) b3 b4
  refine ⟨by decide, .inl rfl, by rw [hlen, dig_len]; exact Nat.le_trans (Nat.mul_le_mul_right 9 (show x + 1 ≤ 8 by omega)) (by decide), (hlen _).symm, by decide, x + 1, valsAre_iff.2 ?_, stIs_iff.2 ?_, by omega, show 4 - (x + 1) < 4 - x by omega⟩
  ·rw [e1, e2, ints_snoc, ← dig_succ, wrap64_in (by omega) (by omega)]; rfl
  ·rw [hlen, dig_len, dig_len]
 ·have hlt := of_decide_eq_false hlt
  obtain rfl : x = 4 := by omega
  refine ⟨⟨0, valsAre_iff.2 ?_, stIs_iff.2 ?_, Nat.zero_le _, trivial⟩, fun y hy => ⟨fun hlt => ?_, fun hlt => ?_⟩⟩
  ·simp [keptDig]
  ·simp [keptDig]
  ·have hlt := of_decide_eq_true hlt
   obtain ⟨e1, e2⟩ := one (x := y) hH.1 hH.2
   refine ⟨by decide, .inl rfl, by rw [hlen, List.length_append, dig_len, dig_len]; exact Nat.le_trans (Nat.mul_le_mul_right 9 (show 4 + y + 1 ≤ 9 by omega)) (by decide), (hlen _).symm, by decide, y + 1, valsAre_iff.2 ?_, stIs_iff.2 ?_, by omega, show 4 - (y + 1) < 4 - y by omega⟩
   ·rw [e1, e2, ints_snoc, List.append_assoc, ← dig_succ, wrap64_in (by omega) (by omega)]; rfl
   ·rw [hlen, List.length_append, List.length_append, dig_len, dig_len, dig_len]; rfl
  ·have hlt := of_decide_eq_false hlt
   obtain rfl : y = 4 := by omega
   refine ⟨(hlen _).symm, retIs_iff.2 ?_⟩
   rw [dig_wide hw]; rfl
/-! ### carry -/
theorem valB_take {l : List Int} {i : Nat} {d : Int} (h : l[i]? = some d) : valB (l.take (i + 1)) = valB (l.take i) + 65536 ^ i * d := by
 have hlt := (List.getElem?_eq_some_iff.1 h).1
 rw [List.take_add_one, h, valB_app, List.length_take, Nat.min_eq_left (by omega)]
 simp [valB]
theorem carry_step {l : List Int} {i : Nat} {d : Int} (h : l[i]? = some d) : valB (l.take (i + 1)) / 65536 ^ (i + 1) = (d + valB (l.take i) / 65536 ^ i) / 65536 ∧ valB l / 65536 ^ i % 65536 = (d + valB (l.take i) / 65536 ^ i) % 65536 := by
 have hp := Int.ne_of_gt (pow_pos' i)
 have e1 : valB (l.take (i + 1)) / 65536 ^ i = d + valB (l.take i) / 65536 ^ i := by
  rw [valB_take h, Int.add_mul_ediv_left _ _ hp, Int.add_comm]
 refine ⟨by rw [← div_step, e1], ?_⟩
 have hlt := (List.getElem?_eq_some_iff.1 h).1
 have e2 : valB l = valB (l.take (i + 1)) + 65536 ^ i * (65536 * valB (l.drop (i + 1))) := by
  conv => lhs; rw [← List.take_append_drop (i + 1) l]
  rw [valB_app, List.length_take, Nat.min_eq_left (by omega), Int.pow_succ, Int.mul_assoc]
 rw [e2, Int.add_mul_ediv_left _ _ hp, e1, Int.add_mul_emod_self_left]
theorem carry_bound {l : List Int} (h : cOk l) : ∀ i, i ≤ 8 → -1000000000000 ≤ valB (l.take i) / 65536 ^ i ∧ valB (l.take i) / 65536 ^ i ≤ 1000000000000
 | 0, _ => by simp [valB]
 | i + 1, hi => by
  have ih := carry_bound h i (by omega)
  have hlt : i < l.length := by have := h.1; omega
  have hd := List.getElem?_eq_getElem hlt
  have hb := h.2 l[i] (List.getElem_mem hlt)
  rw [(carry_step hd).1]
  omega
theorem q68z (l : List Int) (hc : cOk l) : PureOk PA GA XZ (tbl []) (itbl []) (zA68 l) [] 68 [.sl 1 (intsA l) .no] (.sl 1 (intsA (keptDig 8 (valB l))) (.tok 0), [(8, 3)]) := by
 constructor
 rw [z68]
 have hS : ∀ {S : St}, StIs S S := stIs_iff.2 rfl
 have hlen : ∀ x : List Int, (intsA x).length = x.length := fun x => List.length_map ..
 have ints_snoc : ∀ (a : List Int) (d : Int), intsA a ++ [AV.int .i64 d] = intsA (a ++ [d]) := fun a d => by simp [intsA]
 have h8 := hc.1
 refine ⟨⟨0, valsAre_iff.2 (by simp [keptDig, valB]), stIs_iff.2 rfl, Nat.zero_le _, trivial⟩, fun x hx => ⟨fun hlt => ?_, fun hlt => ?_⟩⟩
 ·have hlt := of_decide_eq_true hlt
  have hlt' : x < l.length := by omega
  have hd := List.getElem?_eq_getElem hlt'
  have hb := hc.2 l[x] (List.getElem_mem hlt')
  have hb2 := carry_bound hc x hx
  obtain ⟨e1, e2⟩ := carry_step hd
  refine ⟨⟨by omega, by rw [hlen]; omega⟩, l[x], take_i (by simp), by decide, by decide, ?_⟩
  generalize l[x] = d at *
  have hw : IntKind.i64.wrap (d + valB (List.take x l) / 65536 ^ x) = d + valB (List.take x l) / 65536 ^ x := wrap64_in (by omega) (by omega)
  rw [hw]
  have hq : -2000000000000 ≤ d + valB (List.take x l) / 65536 ^ x ∧ d + valB (List.take x l) / 65536 ^ x ≤ 2000000000000 := by omega
  clear hw
  generalize d + valB (List.take x l) / 65536 ^ x = q at *
  have hroom : ((intsA (keptDig x (valB l))).length + 1) * 9 ≤ 70368744177664 := by rw [hlen, dig_len]; exact Nat.le_trans (Nat.mul_le_mul_right 9 (show x + 1 ≤ 9 by omega)) (by decide)
  have next : ∀ {a b : Int}, a = q % 65536 → b = q / 65536 → ∃ y : Nat, ValsAre [AV.sl 1 (intsA l) Own.no, AV.sl 1 (intsA (keptDig x (valB l)) ++ [AV.int .i64 a]) (Own.tok 0), AV.int .i64 b, AV.int .i64 (IntKind.i64.wrap ((x : Int) + 1))] [AV.sl 1 (intsA l) Own.no, AV.sl 1 (intsA (keptDig y (valB l))) (Own.tok 0), AV.int .i64 (valB (List.take y l) / 65536 ^ y), AV.int .i64 (y : Int)] ∧
    StIs { boxes := [], live := [((intsA (keptDig x (valB l))).length + 1, 3)] } { boxes := [], live := [((keptDig y (valB l)).length, 3)] } ∧ y ≤ 8 ∧ 8 - y < 8 - x := fun {a b} ha hb => by
   subst ha; subst hb
   refine ⟨x + 1, valsAre_iff.2 ?_, stIs_iff.2 ?_, by omega, by omega⟩
   ·rw [ints_snoc, ← e2, ← dig_succ, ← e1, wrap64_in (by omega) (by omega)]; rfl
   ·rw [hlen, dig_len, dig_len]
  refine ⟨fun hn => ⟨.inl rfl, hroom, (hlen _).symm, next ?_ ?_⟩, fun hn => ⟨.inl rfl, hroom, (hlen _).symm, next ?_ ?_⟩⟩
  all_goals
   have ht : (0 ≤ q ∧ q.tdiv 65536 = q / 65536 ∧ q.tmod 65536 = q % 65536) ∨ (q < 0 ∧ q.tdiv 65536 = -((-q) / 65536) ∧ q.tmod 65536 = -((-q) % 65536)) := by
    rcases Int.lt_or_le q 0 with h0 | h0
    ·exact .inr ⟨h0, tdm_neg h0⟩
    ·exact .inl ⟨h0, tdm h0⟩
   clear next
   generalize q.tdiv 65536 = u at *
   generalize q.tmod 65536 = v at *
  ·have hn := of_decide_eq_true hn
   rw [wrap64_in (by omega) (by omega)]; omega
  ·have hn := of_decide_eq_true hn
   rw [wrap64_in (n := u) (by omega) (by omega), wrap64_in (by omega) (by omega)]; omega
  ·have hn := of_decide_eq_false hn
   omega
  ·have hn := of_decide_eq_false hn
   rw [wrap64_in (by omega) (by omega)]; omega
 ·have hlt := of_decide_eq_false hlt
  obtain rfl : x = 8 := by omega
  exact ⟨(hlen _).symm, retIs_iff.2 rfl⟩
theorem mk_step {V d : Int} (h0 : 0 ≤ V) (h1 : V < 281474976710656) (h2 : 0 ≤ d) (h3 : d < 65536) : IntKind.u64.wrap (IntKind.u64.wrap (V * 65536) + IntKind.u64.wrap d) = d + 65536 * V := by
 rw [wrapU, wrapU, wrapU]; omega
theorem q67z (l : List Int) (hl : dOk l) : PureOk PA GA XZ (tbl []) (itbl []) (zA67 l) [] 67 [.sl 1 (intsA l) .no] (wideA (valB l), []) := by
 constructor
 rw [z67]
 have hS : ∀ {S : St}, StIs S S := stIs_iff.2 rfl
 obtain ⟨h1, h2⟩ := hl
 match l, h1 with
 | [d0, d1, d2, d3, d4, d5, d6, d7], _ =>
  have a0 := h2 d0 (by simp); have a1 := h2 d1 (by simp); have a2 := h2 d2 (by simp); have a3 := h2 d3 (by simp)
  have a4 := h2 d4 (by simp); have a5 := h2 d5 (by simp); have a6 := h2 d6 (by simp); have a7 := h2 d7 (by simp)
  clear h2
  refine ⟨⟨0, valsAre_iff.2 rfl, hS, Nat.zero_le _, trivial⟩, fun x hx => ⟨fun hlt => ?_, fun hlt => ?_⟩⟩
  ·have hlt := of_decide_eq_true hlt
   have hc : x = 0 ∨ x = 1 ∨ x = 2 ∨ x = 3 := by omega
   rcases hc with rfl | rfl | rfl | rfl
   ·refine ⟨⟨by decide, show _ < (8 : Int) from by decide⟩, d3, take_i rfl, ⟨by decide, show _ < (8 : Int) from by decide⟩, d7, take_i rfl, 1, valsAre_iff.2 ?_, hS, by decide, by decide⟩
    rw [mk_step (by simp [valB]) (by simp [valB]) a3.1 a3.2, mk_step (by simp [valB]) (by simp [valB]) a7.1 a7.2]; rfl
   ·refine ⟨⟨by decide, show _ < (8 : Int) from by decide⟩, d2, take_i rfl, ⟨by decide, show _ < (8 : Int) from by decide⟩, d6, take_i rfl, 2, valsAre_iff.2 ?_, hS, by decide, by decide⟩
    rw [mk_step (by simp [valB]; omega) (by simp [valB]; omega) a2.1 a2.2, mk_step (by simp [valB]; omega) (by simp [valB]; omega) a6.1 a6.2]; rfl
   ·refine ⟨⟨by decide, show _ < (8 : Int) from by decide⟩, d1, take_i rfl, ⟨by decide, show _ < (8 : Int) from by decide⟩, d5, take_i rfl, 3, valsAre_iff.2 ?_, hS, by decide, by decide⟩
    rw [mk_step (by simp [valB]; omega) (by simp [valB]; omega) a1.1 a1.2, mk_step (by simp [valB]; omega) (by simp [valB]; omega) a5.1 a5.2]; rfl
   ·refine ⟨⟨by decide, show _ < (8 : Int) from by decide⟩, d0, take_i rfl, ⟨by decide, show _ < (8 : Int) from by decide⟩, d4, take_i rfl, 4, valsAre_iff.2 ?_, hS, by decide, by decide⟩
    rw [mk_step (by simp [valB]; omega) (by simp [valB]; omega) a0.1 a0.2, mk_step (by simp [valB]; omega) (by simp [valB]; omega) a4.1 a4.2]; rfl
  ·have hlt := of_decide_eq_false hlt
   obtain rfl : x = 4 := by omega
   refine retIs_iff.2 ?_
   have e1 : valB (List.drop (4 - 4) (List.drop 4 [d0, d1, d2, d3, d4, d5, d6, d7])) = valB [d0, d1, d2, d3, d4, d5, d6, d7] / 18446744073709551616 := by simp [valB]; omega
   have e2 : valB (List.drop (4 - 4) (List.take 4 [d0, d1, d2, d3, d4, d5, d6, d7])) = valB [d0, d1, d2, d3, d4, d5, d6, d7] % 18446744073709551616 := by simp [valB]; omega
   rw [e1, e2]; rfl
theorem wide_congr {x y : Int} (h : (x - y) % 340282366920938463463374607431768211456 = 0) : wideA x = wideA y := by
 unfold wideA
 have e1 := whi_congr h
 have e2 := wlo_congr h
 unfold whi at e1
 unfold wlo at e2
 rw [iw, iw, e1, e2]
theorem unD_one (n : Int) : unD (AV.int .i64 n) = some n := rfl
theorem unD_ok (l : List Int) : unL unD (intsA l) = some l := unL_map unD_one l
theorem unD_inv {es : List AV} {l : List Int} (h : unL unD es = some l) : es = intsA l := unL_inv (fun a n h => by
 unfold unD at h
 split at h
 ·injection h with h; subst h; rfl
 ·cases h) h
theorem len_ints (l : List Int) : (intsA l).length = l.length := List.length_map ..
theorem setC_int (a b : Int) : keptSetC (.int .i64 a) 0 [.int .i64 b] = .int .i64 b := rfl
theorem setC_at {l : List Int} {i : Nat} {a : Int} (h : l[i]? = some a) (b : Int) : (intsA l).set i (keptSetC ((intsA l).getD i .junk) 0 [.int .i64 b]) = intsA (l.set i b) := by
 have e : (intsA l).getD i .junk = .int .i64 a := by
  rw [List.getD_eq_getElem?_getD, List.getElem?_map, h]; rfl
 rw [e, setC_int]
 show (l.map (AV.int .i64)).set i _ = (l.set i b).map (AV.int .i64)
 rw [List.map_set]
theorem add_at (X Y : List Int) (i : Nat) {j : Nat} (h : j < 8) : (keptAddTo X Y i)[j]? = some (if j < i then X.getD j 0 + Y.getD j 0 else X.getD j 0) := by
 unfold keptAddTo
 rw [List.getElem?_map, List.getElem?_range h]; rfl
theorem add_len (X Y : List Int) (i : Nat) : (keptAddTo X Y i).length = 8 := by unfold keptAddTo; simp
theorem add_set (X Y : List Int) {i : Nat} (h : i < 8) : (keptAddTo X Y i).set i (X.getD i 0 + Y.getD i 0) = keptAddTo X Y (i + 1) := by
 apply List.ext_getElem?
 intro j
 by_cases hj : j < 8
 ·rw [List.getElem?_set, add_at X Y i hj, add_at X Y (i + 1) hj]
  by_cases e : i = j
  ·subst e
   rw [if_pos rfl, if_pos (by rw [add_len]; exact h), if_pos (by omega)]
  ·rw [if_neg e]
   by_cases c : j < i
   ·rw [if_pos c, if_pos (by omega)]
   ·rw [if_neg c, if_neg (by omega)]
 ·rw [List.getElem?_eq_none (by rw [List.length_set, add_len]; omega), List.getElem?_eq_none (by rw [add_len]; omega)]
theorem val_ok {l : List Int} (h : cOk l) : tbl [(68, zCarry), (67, zMake)] 68 [.sl 1 (intsA l) .no] = some (.sl 1 (intsA (keptDig 8 (valB l))) (.tok 0), [(8, 3)]) := by
 rw [tb_hit]; simp only [zCarry, unD_ok]
 rw [if_pos ⟨trivial, h⟩]
theorem mk_ok (x : Int) : zMake [.sl 1 (intsA (keptDig 8 x)) .no] = some (wideA x, []) := by
 simp only [zMake, unD_ok]
 rw [if_pos ⟨trivial, dig_ok x⟩, valB_dig]
 congr 2
 exact wide_congr (by omega)
theorem val_add {X Y : List Int} (hX : X.length = 8) (hY : Y.length = 8) : valB (keptAddTo X Y 8) = valB X + valB Y := by
 match X, hX with
 | [a0, a1, a2, a3, a4, a5, a6, a7], _ =>
  match Y, hY with
  | [b0, b1, b2, b3, b4, b5, b6, b7], _ =>
   have e : keptAddTo [a0, a1, a2, a3, a4, a5, a6, a7] [b0, b1, b2, b3, b4, b5, b6, b7] 8 = [a0 + b0, a1 + b1, a2 + b2, a3 + b3, a4 + b4, a5 + b5, a6 + b6, a7 + b7] := rfl
   rw [e]
   simp only [valB]
   omega
theorem add_c {X Y : List Int} (hX : dOk X) (hY : dOk Y) : cOk (keptAddTo X Y 8) := ⟨add_len .., fun d hd => by
 obtain ⟨j, hj⟩ := List.mem_iff_getElem?.1 hd
 have h8 : j < 8 := by
  have := (List.getElem?_eq_some_iff.1 hj).1
  rw [add_len] at this; exact this
 rw [add_at X Y 8 h8, if_pos h8] at hj
 injection hj with hj; subst hj
 have g1 : X.getD j 0 = X[j]'(by rw [hX.1]; exact h8) := by rw [List.getD_eq_getElem?_getD, List.getElem?_eq_getElem (by rw [hX.1]; exact h8)]; rfl
 have g2 : Y.getD j 0 = Y[j]'(by rw [hY.1]; exact h8) := by rw [List.getD_eq_getElem?_getD, List.getElem?_eq_getElem (by rw [hY.1]; exact h8)]; rfl
 have b1 := hX.2 _ (List.getElem_mem (by rw [hX.1]; exact h8 : j < X.length))
 have b2 := hY.2 _ (List.getElem_mem (by rw [hY.1]; exact h8 : j < Y.length))
 rw [g1, g2]; omega⟩
theorem getD_rng {X : List Int} (hX : dOk X) {j : Nat} (h8 : j < 8) : X[j]? = some (X.getD j 0) ∧ 0 ≤ X.getD j 0 ∧ X.getD j 0 < 65536 := by
 have hl : j < X.length := by rw [hX.1]; exact h8
 have e : X[j]? = some (X.getD j 0) := by rw [List.getD_eq_getElem?_getD, List.getElem?_eq_getElem hl]; rfl
 exact ⟨e, hX.2 _ (List.mem_of_getElem? e)⟩
theorem q47z (h l h' l' : Int) (hw : wOk h l) (hw' : wOk h' l') : PureOk PA GA XZ (tbl [(68, zCarry), (67, zMake)]) (itbl [(66, zDigM)]) (zA47 h l h' l' (keptDig 8 (wv h l)) (keptDig 8 (wv h' l'))) [] 47 [.agg [.int .i64 h, .int .u64 l], .agg [.int .i64 h', .int .u64 l']] (wideA (wv h l + wv h' l'), []) := by
 constructor
 rw [z47]
 have hX := dig_ok (wv h l)
 have hY := dig_ok (wv h' l')
 refine ⟨hw, hw', ⟨⟨0, ⟨rfl⟩, ⟨rfl⟩, Nat.zero_le _, trivial⟩, fun i hi => ⟨fun lt => ?_, fun ge => ?_⟩⟩, fun _ _ _ => ?_⟩
 ·have lt := of_decide_eq_true lt
  have h8 : i < 8 := by omega
  generalize keptDig 8 (wv h l) = X at *
  generalize keptDig 8 (wv h' l') = Y at *
  obtain ⟨x1, x2⟩ := getD_rng hX h8
  obtain ⟨y1, y2⟩ := getD_rng hY h8
  have a1 : (keptAddTo X Y i)[i]? = some (X.getD i 0) := by rw [add_at X Y i h8, if_neg (by omega)]
  have hs : (keptAdd X Y i).set (i : Int).toNat (keptSetC ((keptAdd X Y i).getD (i : Int).toNat .junk) 0 [.int .i64 (IntKind.i64.wrap (X.getD i 0 + Y.getD i 0))]) = keptAdd X Y (i + 1) := by
   unfold keptAdd
   rw [Int.toNat_natCast, setC_at a1, iwN ⟨by omega, by omega⟩, add_set X Y h8]
  refine ⟨⟨by omega, lt⟩, X.getD i 0, by rw [Int.toNat_natCast]; exact take_i a1, ⟨by omega, lt⟩, Y.getD i 0, by rw [Int.toNat_natCast]; exact take_i y1, ⟨by omega, lt⟩, by rw [Int.toNat_natCast]; exact h8, i + 1, ⟨?_⟩, ⟨?_⟩, h8, by omega⟩
  ·rw [iwN ⟨by omega, by omega⟩]; rfl
  ·rw [hs]
 ·have ge := of_decide_eq_false ge
  obtain rfl : i = 8 := by omega
  exact ⟨rfl, (), ⟨rfl⟩, ⟨rfl⟩, trivial, trivial⟩
 ·have c1 := val_ok (add_c hX hY)
  rw [val_add hX.1 hY.1, valB_dig, valB_dig] at c1
  have c2 := mk_ok (wv h l % 65536 ^ 8 + wv h' l' % 65536 ^ 8)
  refine ⟨_, callIs_iff.2 c1, _, _, callIs_iff.2 (by rw [tb_miss (by decide), tb_hit]; exact c2), retIs_iff.2 ?_⟩
  have e : wideA (wv h l % 65536 ^ 8 + wv h' l' % 65536 ^ 8) = wideA (wv h l + wv h' l') := wide_congr (by omega)
  rw [← e]; rfl
theorem valB_set : ∀ {l : List Int} {j : Nat} {a : Int} (d : Int), l[j]? = some a → valB (l.set j (a + d)) = valB l + 65536 ^ j * d
 | [], j, a, d, h => by simp at h
 | x :: l, 0, a, d, h => by
  simp only [List.getElem?_cons_zero, Option.some.injEq] at h
  subst h
  simp only [List.set_cons_zero, valB, Int.pow_zero]; omega
 | x :: l, j + 1, a, d, h => by
  simp only [List.getElem?_cons_succ] at h
  have ih := valB_set d h
  simp only [List.set_cons_succ, valB, ih, Int.pow_succ, Int.mul_add]
  rw [Int.mul_comm (65536 ^ j) 65536, Int.mul_assoc]; omega
theorem sc_start (X Y : List Int) : ScOk X Y 0 0 [0, 0, 0, 0, 0, 0, 0, 0] := by
 refine ⟨rfl, fun j d h => ?_, ?_, by omega, by omega, .inr rfl⟩
 ·have : d = 0 := by
   have := List.mem_of_getElem? h
   simpa using this
  subst this
  split <;> omega
 ·have e : valB [0, 0, 0, 0, 0, 0, 0, 0] = 0 := rfl
  rw [e]
  simp [valB]
theorem sc_step {X Y : List Int} {i k : Nat} {out : List Int} (hX : dOk X) (hY : dOk Y) (h : ScOk X Y i k out) (hi : i < 8) (hik : i + k < 8) {a : Int} (ha : out[i + k]? = some a) :
  (0 ≤ a ∧ a ≤ 34359738368) ∧ (0 ≤ X.getD i 0 * Y.getD k 0 ∧ X.getD i 0 * Y.getD k 0 ≤ 4294836225) ∧ ScOk X Y i (k + 1) (out.set (i + k) (a + X.getD i 0 * Y.getD k 0)) := by
 obtain ⟨x1, x2⟩ := getD_rng hX hi
 obtain ⟨y1, y2⟩ := getD_rng hY (show k < 8 by omega)
 have hb := h.bnd _ _ ha
 rw [if_neg (by omega)] at hb
 have p1 : 0 ≤ X.getD i 0 * Y.getD k 0 := Int.mul_nonneg x2.1 y2.1
 have p2 : X.getD i 0 * Y.getD k 0 ≤ 65535 * 65535 := Int.mul_le_mul (by omega) (by omega) y2.1 (by omega)
 refine ⟨⟨hb.1, by omega⟩, ⟨p1, by omega⟩, by rw [List.length_set]; exact h.len, fun j d hj => ?_, ?_, h.ik, by omega, .inl (by omega)⟩
 ·rw [List.getElem?_set] at hj
  by_cases e : i + k = j
  ·subst e
   rw [if_pos rfl] at hj
   split at hj
   ·injection hj with hj; subst hj
    rw [if_pos (by omega)]; omega
   ·cases hj
  ·rw [if_neg e] at hj
   have := h.bnd j d hj
   refine ⟨this.1, ?_⟩
   split at this
   ·rw [if_pos (by omega)]; exact this.2
   ·split <;> omega
 ·rw [valB_set _ ha, valB_take y1, Int.pow_add]
  have e := h.val
  generalize X.getD i 0 = x at *
  generalize Y.getD k 0 = y at *
  generalize valB (X.take i) * valB Y = A at *
  generalize valB (Y.take k) = V at *
  generalize valB out = O at *
  generalize (65536 : Int) ^ i = p at *
  generalize (65536 : Int) ^ k = q at *
  have e2 : p * q * (x * y) = p * x * (q * y) := by simp only [Int.mul_comm, Int.mul_left_comm]
  rw [Int.mul_add, e2]
  have : O + p * x * (q * y) - (A + (p * x * V + p * x * (q * y))) = O - (A + p * x * V) := by omega
  rw [this]; exact e
theorem sc_row {X Y : List Int} {i k : Nat} {out : List Int} (hX : dOk X) (h : ScOk X Y i k out) (hi : i < 8) (hik : 8 ≤ i + k) : ScOk X Y (i + 1) 0 out := by
 obtain ⟨x1, x2⟩ := getD_rng hX hi
 have hk : i + k = 8 := by
  rcases h.fit with f | f <;> omega
 refine ⟨h.len, fun j d hj => ?_, ?_, by omega, by omega, .inr rfl⟩
 ·have := h.bnd j d hj
  refine ⟨this.1, ?_⟩
  have hj8 : j < 8 := by
   have := (List.getElem?_eq_some_iff.1 hj).1
   rw [h.len] at this; exact this
  rw [if_pos (by omega)] at this
  split <;> omega
 ·have e := h.val
  have eY : valB Y = valB (Y.take k) + 65536 ^ (Y.take k).length * valB (Y.drop k) := by
   conv => lhs; rw [← List.take_append_drop k Y]
   rw [valB_app]
  have hz : valB (Y.take 0) = 0 := by rw [List.take_zero]; rfl
  rw [hz, Int.mul_zero, Int.add_zero, valB_take x1, Int.add_mul]
  by_cases hkl : k ≤ Y.length
  ·rw [List.length_take, Nat.min_eq_left hkl] at eY
   generalize valB (Y.drop k) = R at *
   rw [eY] at e ⊢
   have e8 : (65536 : Int) ^ i * 65536 ^ k = 340282366920938463463374607431768211456 := by rw [← Int.pow_add, hk]; decide
   generalize X.getD i 0 = x at *
   generalize valB (X.take i) = T at *
   generalize valB (Y.take k) = V at *
   generalize valB out = O at *
   generalize (65536 : Int) ^ i = p at *
   generalize (65536 : Int) ^ k = q at *
   have e2 : p * x * (V + q * R) = p * x * V + 340282366920938463463374607431768211456 * (x * R) := by
    rw [Int.mul_add, ← e8]
    congr 1
    simp only [Int.mul_comm, Int.mul_left_comm]
   rw [e2]
   generalize T * (V + q * R) = U at *
   generalize p * x * V = W at *
   generalize x * R = Z at *
   omega
  ·have e0 : Y.drop k = [] := List.drop_of_length_le (by omega)
   have e1 : Y.take k = Y := List.take_of_length_le (by omega)
   rw [e1] at e
   exact e
theorem sc_c {X Y out : List Int} (h : ScOk X Y 8 0 out) : cOk out := ⟨h.len, fun d hd => by
 obtain ⟨j, hj⟩ := List.mem_iff_getElem?.1 hd
 have := h.bnd j d hj
 split at this <;> omega⟩
theorem sc_val {X Y out : List Int} (hX : dOk X) (h : ScOk X Y 8 0 out) : (valB out - valB X * valB Y) % 340282366920938463463374607431768211456 = 0 := by
 have e := h.val
 have hz : valB (Y.take 0) = 0 := by rw [List.take_zero]; rfl
 rw [hz, Int.mul_zero, Int.add_zero, List.take_of_length_le (by rw [hX.1]; omega)] at e
 exact e
theorem dig_tbl {h l : Int} (hw : wOk h l) (t : List (FuncId × Spec)) : tbl ((66, zDig) :: t) 66 [.agg [.int .i64 h, .int .u64 l]] = some (.sl 1 (intsA (keptDig 8 (wv h l))) (.tok 0), [(8, 3)]) := by
 rw [tb_hit]; simp only [zDig]; rw [if_pos hw]
theorem wv_wide (n : Int) : (wv (IntKind.i64.wrap (n / 18446744073709551616)) (n % 18446744073709551616) - n) % 340282366920938463463374607431768211456 = 0 := by
 have := sg_mod n
 unfold sg whi wlo at this
 rw [iw]; exact this
theorem wide_ok (n : Int) : wOk (IntKind.i64.wrap (n / 18446744073709551616)) (n % 18446744073709551616) := by
 have := w64_range (n / 18446744073709551616)
 rw [iw]
 unfold wOk
 omega
set_option maxHeartbeats 1000000 in
theorem q69z (h l n : Int) (hw : wOk h l) (hn : iOk n) : PureOk PA GA XZ (tbl [(66, zDig), (70, zOf), (68, zCarry), (67, zMake)]) (itbl []) (zA69 h l (keptDig 8 (wv h l)) (keptDig 8 (wv (IntKind.i64.wrap (n / 18446744073709551616)) (n % 18446744073709551616)))) [] 69 [.agg [.int .i64 h, .int .u64 l], .int .i64 n] (wideA (wv h l * n), []) := by
 constructor
 rw [z69]
 have hwn := wide_ok n
 have hvn := wv_wide n
 have c70 : tbl [(66, zDig), (70, zOf), (68, zCarry), (67, zMake)] 70 [.int .i64 n] = some (wideA n, []) := by
  rw [tb_miss (by decide), tb_hit]; simp only [zOf, s53]; rw [if_pos hn]
 have c1 := dig_tbl hw [(70, zOf), (68, zCarry), (67, zMake)]
 have c2 := dig_tbl hwn [(70, zOf), (68, zCarry), (67, zMake)]
 have hX := dig_ok (wv h l)
 have hY := dig_ok (wv (IntKind.i64.wrap (n / 18446744073709551616)) (n % 18446744073709551616))
 have vX := valB_dig 8 (wv h l)
 have vY := valB_dig 8 (wv (IntKind.i64.wrap (n / 18446744073709551616)) (n % 18446744073709551616))
 generalize keptDig 8 (wv h l) = X at *
 generalize keptDig 8 (wv (IntKind.i64.wrap (n / 18446744073709551616)) (n % 18446744073709551616)) = Y at *
 have lX : (intsA X).length = 8 := by rw [len_ints, hX.1]
 have lY : (intsA Y).length = 8 := by rw [len_ints, hY.1]
 refine ⟨_, callIs_iff.2 (by rw [lX]; exact c1), _, _, callIs_iff.2 c70, _, callIs_iff.2 (by rw [lY]; exact c2), ⟨by decide, by decide, by decide⟩, ⟨⟨⟨0, 0, [0, 0, 0, 0, 0, 0, 0, 0]⟩, ⟨rfl⟩, ⟨by rw [lX, lY]; rfl⟩, sc_start X Y, trivial⟩, fun p hp => ⟨fun lt => ⟨⟨⟨p.i, 0, p.out⟩, ⟨rfl⟩, ⟨rfl⟩, ⟨hp, ?_⟩, rfl⟩, fun p2 h2 t2 => ⟨fun lk => ?_, fun gk => ?_⟩⟩, fun ge => ?_⟩⟩, fun p hp _ => ?_⟩
 ·have lt := of_decide_eq_true lt
  show p.i < 8
  omega
 ·obtain ⟨i, _, _⟩ := p
  obtain ⟨i2, k2, out⟩ := p2
  dsimp only at h2 t2 lt lk ⊢
  obtain rfl : i = i2 := by injection t2 with t2; injection t2 with _ t2; omega
  obtain ⟨h2, hi⟩ := h2
  have hk := h2.kk
  have w1 : IntKind.i64.wrap ((i : Int) + k2) = ((i + k2 : Nat) : Int) := by rw [iwN ⟨by omega, by omega⟩]; omega
  rw [w1] at lk
  have lk := of_decide_eq_true lk
  have hik : i + k2 < 8 := by omega
  have ha : out[i + k2]? = some (out[i + k2]'(by rw [h2.len]; exact hik)) := List.getElem?_eq_getElem (by rw [h2.len]; exact hik)
  generalize out[i + k2]'(by rw [h2.len]; exact hik) = a at ha
  obtain ⟨b1, b2, b3⟩ := sc_step hX hY h2 hi hik ha
  obtain ⟨x1, x2⟩ := getD_rng hX hi
  obtain ⟨y1, y2⟩ := getD_rng hY (show k2 < 8 by omega)
  rw [w1]
  refine ⟨⟨by omega, by omega⟩, a, by rw [Int.toNat_natCast]; exact take_i ha, ⟨by omega, by rw [lX]; omega⟩, _, by rw [Int.toNat_natCast]; exact take_i x1, ⟨by omega, by rw [lY]; omega⟩, _, by rw [Int.toNat_natCast]; exact take_i y1, ⟨by omega, by omega⟩, by rw [Int.toNat_natCast, len_ints, h2.len]; exact hik, ⟨i, k2 + 1, _⟩, ⟨?_⟩, ⟨?_⟩, ⟨b3, hi⟩, rfl, by show 8 - (k2 + 1) < 8 - k2; omega⟩
  ·rw [iwN (x := (k2 : Int) + 1) ⟨by omega, by omega⟩]; rfl
  ·rw [Int.toNat_natCast, setC_at ha, iwN (x := X.getD i 0 * Y.getD k2 0) ⟨by omega, by omega⟩, iwN (x := a + X.getD i 0 * Y.getD k2 0) ⟨by omega, by omega⟩]
 ·obtain ⟨i, _, _⟩ := p
  obtain ⟨i2, k2, out⟩ := p2
  dsimp only at h2 t2 lt gk ⊢
  obtain rfl : i = i2 := by injection t2 with t2; injection t2 with _ t2; omega
  obtain ⟨h2, hi⟩ := h2
  have hk := h2.kk
  have w1 : IntKind.i64.wrap ((i : Int) + k2) = ((i + k2 : Nat) : Int) := by rw [iwN ⟨by omega, by omega⟩]; omega
  rw [w1] at gk
  have gk := of_decide_eq_false gk
  refine ⟨⟨i + 1, 0, out⟩, ⟨?_⟩, ⟨rfl⟩, sc_row hX h2 hi (by omega), by show 8 - (i + 1) < 8 - i; omega⟩
  rw [iwN (x := (i : Int) + 1) ⟨by omega, by omega⟩]; rfl
 ·obtain ⟨i, k, out⟩ := p
  dsimp only at hp ge ⊢
  have ge := of_decide_eq_false ge
  have hi := hp.ik
  obtain rfl : i = 8 := by omega
  exact ⟨by rw [len_ints, hp.len], ⟨8, 0, out⟩, ⟨rfl⟩, ⟨rfl⟩, hp, trivial⟩
 ·have d1 : tbl [(66, zDig), (70, zOf), (68, zCarry), (67, zMake)] 68 [.sl 1 (intsA p.out) .no] = some (.sl 1 (intsA (keptDig 8 (valB p.out))) (.tok 0), [(8, 3)]) := by
   rw [tb_miss (by decide), tb_miss (by decide)]; exact val_ok (sc_c hp)
  have d2 := mk_ok (valB p.out)
  refine ⟨_, callIs_iff.2 d1, _, _, callIs_iff.2 (by rw [tb_miss (by decide), tb_miss (by decide), tb_miss (by decide), tb_hit]; exact d2), retIs_iff.2 ?_⟩
  have e : wideA (valB p.out) = wideA (wv h l * n) := wide_congr (by
   have v := sc_val hX hp
   rw [vX, vY] at v
   have m1 : ((wv h l % 65536 ^ 8) * (wv (IntKind.i64.wrap (n / 18446744073709551616)) (n % 18446744073709551616) % 65536 ^ 8) - wv h l * n) % 340282366920938463463374607431768211456 = 0 := by
    have q1 : ∃ a, wv h l % 65536 ^ 8 = wv h l + 340282366920938463463374607431768211456 * a := ⟨-(wv h l / 340282366920938463463374607431768211456), by omega⟩
    have q2 : ∃ b, wv (IntKind.i64.wrap (n / 18446744073709551616)) (n % 18446744073709551616) % 65536 ^ 8 = n + 340282366920938463463374607431768211456 * b := by
     generalize wv (IntKind.i64.wrap (n / 18446744073709551616)) (n % 18446744073709551616) = z at hvn ⊢
     exact ⟨(z % 340282366920938463463374607431768211456 - n) / 340282366920938463463374607431768211456, by omega⟩
    obtain ⟨a, qa⟩ := q1
    obtain ⟨b, qb⟩ := q2
    rw [qa, qb]
    generalize wv h l = w
    have : (w + 340282366920938463463374607431768211456 * a) * (n + 340282366920938463463374607431768211456 * b) - w * n = 340282366920938463463374607431768211456 * (w * b + a * n + a * (340282366920938463463374607431768211456 * b)) := by
     rw [Int.add_mul, Int.mul_add w, Int.mul_add (340282366920938463463374607431768211456 * a), Int.mul_add, Int.mul_add, Int.mul_assoc 340282366920938463463374607431768211456 a, Int.mul_assoc 340282366920938463463374607431768211456 a, Int.mul_left_comm w 340282366920938463463374607431768211456 b]
     omega
    rw [this, Int.mul_emod_right]
   generalize (wv h l % 65536 ^ 8) * (wv (IntKind.i64.wrap (n / 18446744073709551616)) (n % 18446744073709551616) % 65536 ^ 8) = P at *
   omega)
  rw [← e]; rfl
theorem wk_ints {l : List Int} (h : l.length = 8) {o : Own} : wkSt (.sl 1 (l.map (AV.int .i64)) o) = .sl 1 (intsA l) .no := by
 cases l with
 | nil => cases h
 | cons x l => rfl
theorem j66 : SpecOk PA GA 66 zDig := spec_of (X := XZ) (m := []) mixedA tbl_nil itbl_nil fun args r h => by
 unfold zDig at h
 split at h
 case h_2 => cases h
 split at h
 case isFalse => cases h
 rename_i hc
 injection h with h; subst h
 exact ⟨_, q66z _ _ hc⟩
theorem sizeD3' : sizeA PA 3 = some 1 := by kernel_rfl
theorem j66m : ISpecOk PA GA 66 zDigM := thaw_of (X := XZ) (m := []) mixedA tbl_nil itbl_nil fun args S p r h hp => by
 unfold zDigM at h
 split at h
 case h_2 => cases h
 injection h with h
 injection h with h1 h2
 subst h1; subst h2
 rename_i a b
 have hl : (intsA (keptDig 8 (wv a b))).length = 8 := by rw [len_ints, dig_len]
 refine ⟨intsA (keptDig 8 (wv a b)), 3, 1, _, by rw [hl]; exact q66z _ _ hp, fun h => (by rw [h] at hl; cases hl), by omega, sizeD3', fun x hx c hc => ?_, fun c hc => ?_, by rw [hl]⟩
 ·obtain ⟨q, _, rfl⟩ := List.mem_map.1 hx
  simp only [AV.cells, List.mem_cons, List.not_mem_nil, or_false] at hc
  subst hc; rfl
 ·simp only [List.mem_cons, List.not_mem_nil, or_false] at hc
  subst hc; rfl
theorem j68 : SpecOk PA GA 68 zCarry := spec_wkS fun args r h => by
 unfold zCarry at h
 split at h
 case h_2 => cases h
 split at h
 case h_2 => cases h
 rename_i l hl
 split at h
 case isFalse => cases h
 rename_i hc
 injection h with h; subst h
 obtain rfl := unD_inv hl
 rw [hc.1, List.map_cons, List.map_nil, wk_ints hc.2.1]
 exact one_pure mixedA tbl_nil itbl_nil (q68z l hc.2)
theorem j67 : SpecOk PA GA 67 zMake := spec_wkS fun args r h => by
 unfold zMake at h
 split at h
 case h_2 => cases h
 split at h
 case h_2 => cases h
 rename_i l hl
 split at h
 case isFalse => cases h
 rename_i hc
 injection h with h; subst h
 obtain rfl := unD_inv hl
 rw [hc.1, List.map_cons, List.map_nil, wk_ints hc.2.1]
 exact one_pure mixedA tbl_nil itbl_nil (q67z l hc.2)
theorem j70 : SpecOk PA GA 70 zOf := spec_of (X := XZ) (m := []) mixedA tbl_nil itbl_nil fun args r h => by
 unfold zOf s53 at h
 split at h
 case h_2 => cases h
 split at h
 case isFalse => cases h
 rename_i hc
 injection h with h; subst h
 exact ⟨_, q70z _ hc⟩
theorem j47 : SpecOk PA GA 47 zAdd := spec_of (X := XZ) (m := []) mixedA (tbl_cons j68 (tbl_cons j67 tbl_nil)) (itbl_cons j66m itbl_nil) fun args r h => by
 unfold zAdd s47 sW2 at h
 split at h
 case h_2 => cases h
 split at h
 case isFalse => cases h
 rename_i hc
 injection h with h; subst h
 exact ⟨_, q47z _ _ _ _ hc.1 hc.2⟩
theorem j69 : SpecOk PA GA 69 zScale := spec_of (X := XZ) (m := []) mixedA (tbl_cons j66 (tbl_cons j70 (tbl_cons j68 (tbl_cons j67 tbl_nil)))) itbl_nil fun args r h => by
 unfold zScale s49 at h
 split at h
 case h_2 => cases h
 split at h
 case isFalse => cases h
 rename_i hc
 injection h with h; subst h
 exact ⟨_, q69z _ _ _ hc.1 hc.2⟩
theorem q48z (a b : Int) (ha : iOk a) (hb : iOk b) : PureOk PA GA XZ (tbl [(70, zOf), (69, zScale)]) (itbl []) nAn [] 48 [.int .i64 a, .int .i64 b] (wideA (a * b), []) := by
 constructor
 rw [z48]
 have c1 : tbl [(70, zOf), (69, zScale)] 70 [.int .i64 a] = some (wideA a, []) := by
  rw [tb_hit]; simp only [zOf, s53]; rw [if_pos ha]
 have c2 : tbl [(70, zOf), (69, zScale)] 69 [wideA a, .int .i64 b] = some (wideA (wv (IntKind.i64.wrap (a / 18446744073709551616)) (a % 18446744073709551616) * b), []) := by
  rw [tb_miss (by decide), tb_hit]; simp only [zScale, s49, wideA]; rw [if_pos ⟨wide_ok a, hb⟩]
 refine ⟨_, _, callIs_iff.2 c1, _, _, callIs_iff.2 c2, retIs_iff.2 ?_⟩
 have e : wideA (wv (IntKind.i64.wrap (a / 18446744073709551616)) (a % 18446744073709551616) * b) = wideA (a * b) := wide_congr (by
  have h := wv_wide a
  rw [← Int.sub_mul]
  generalize wv (IntKind.i64.wrap (a / 18446744073709551616)) (a % 18446744073709551616) - a = d at *
  rw [Int.mul_emod, h]; simp)
 rw [← e]; rfl
theorem j48 : SpecOk PA GA 48 zMul := spec_of (X := XZ) (m := []) mixedA (tbl_cons j70 (tbl_cons j69 tbl_nil)) itbl_nil fun args r h => by
 unfold zMul s48 at h
 split at h
 case h_2 => cases h
 split at h
 case isFalse => cases h
 rename_i hc
 injection h with h; subst h
 exact ⟨_, q48z _ _ hc.1 hc.2⟩
instance (l : Bks) : Decidable (Asc l) := inferInstanceAs (Decidable (_ ∧ ∀ x ∈ l, _))
def zPos : Spec := fun args => match args with
 | [.int .u64 n] => if uOk n then some (.int .i64 (bk n.toNat : Nat), []) else none
 | _ => none
def zIdx : Spec := fun args => match args with
 | [.int .i64 n] => if iOk n then some (.int .i64 (idx n), []) else none
 | _ => none
def zMrg : Spec := fun args => match args with
 | [.sl sz es _, .sl sz2 es2 _] => match unL unBk es, unL unBk es2 with
  | some l, some m => if (sz = 2 ∨ l = []) ∧ (sz2 = 2 ∨ m = []) ∧ WfB l ∧ WfB m ∧ Asc l ∧ Asc m ∧ l.length + m.length ≤ 100000000 then some (.sl 2 (bksL (normB (l ++ m))) .no, []) else none
  | _, _ => none
 | _ => none
def zAddB : Spec := fun args => match args with
 | [.sl sz es _, .int .i64 n, .int .i64 t] => match unL unBk es with
  | some l => if (sz = 2 ∨ l = []) ∧ WfB l ∧ Asc l ∧ l.length < 10000000 ∧ iOk n ∧ iOk t ∧ t ≠ 0 then some (.sl 2 (bksL (normB (l ++ [(idx n, t)]))) .no, []) else none
  | _ => none
 | _ => none
def XG : Shapes := fun f => match f with
 | 71 | 80 => some shI
 | 53 => some (.val (.one (.sl 2 .no)), none)
 | f => XZ f
def zA80 (n : Nat) : Anns := ⟨fun k => match k with
 | 3 => some { α := Nat, slots := [0, 3, 4], nb := 0, vals := fun i => [.int .u64 n, .int .i64 i, .int .u64 (n / 2 ^ i : Nat)], sS := fun _ => ⟨[], []⟩, I := fun i => i ≤ Lib.bitLen n, μ := fun i => Lib.bitLen n - i }
 | 10 => some { α := Nat, slots := [0, 5, 6], nb := 0, vals := fun i => [.int .u64 (n / 2 ^ i : Nat), .int .i64 (sh n : Nat), .int .i64 i], sS := fun _ => ⟨[], []⟩, I := fun i => i ≤ sh n, μ := fun i => sh n - i }
 | _ => none, nA⟩
structure KB where
 i : Nat
 k : Nat
 out : Bks
structure MgOk (a b : Bks) (i k : Nat) (out : Bks) : Prop where
 asc : Asc out
 wf : WfB out
 tot : ∀ j, tot out j = wrap64 (tot (a.take i) j + tot (b.take k) j)
 ia : i ≤ a.length
 kb : k ≤ b.length
 len : out.length ≤ i + k
 la : ∀ x ∈ out, ∀ y ∈ a.drop i, x.1 < y.1
 lb : ∀ x ∈ out, ∀ y ∈ b.drop k, x.1 < y.1
def zA53 (a b : Bks) : Anns := ⟨fun k => match k with
 | 4 => some { α := KB, slots := [0, 1, 5, 6, 7], nb := 0, vals := fun p => [.sl 2 (bksL a) .no, .sl 2 (bksL b) .no, .sl 2 (bksL p.out) (.tok 0), .int .i64 p.i, .int .i64 p.k], sS := fun p => ⟨[], [((bksL p.out).length, 90)]⟩, I := fun p => MgOk a b p.i p.k p.out, μ := fun p => a.length + b.length - p.i - p.k, mint := [(5, 90)] }
 | 1000010 => some { α := KB, slots := [0, 1, 5, 6, 7], nb := 0, vals := fun p => [.sl 2 (bksL a) .no, .sl 2 (bksL b) .no, .sl 2 (bksL p.out) (.tok 0), .int .i64 p.i, .int .i64 p.k], sS := fun p => ⟨[], [((bksL p.out).length, 90)]⟩, I := fun p => MgOk a b p.i p.k p.out ∧ (p.i < a.length ∨ p.k < b.length), μ := fun _ => 0, rel := fun T p => T[6]? = some (.int .i64 p.i) ∧ T[7]? = some (.int .i64 p.k) }
 | _ => none, nA⟩
end Go.Abs
