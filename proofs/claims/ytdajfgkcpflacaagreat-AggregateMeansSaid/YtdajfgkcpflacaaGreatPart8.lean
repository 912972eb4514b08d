/- Own texts, part 8. -/
import Derived.Test.YtdajfgkcpflacaaGreatPart4
import Derived.Test.YtdajfgkcpflacaaGreatPart7

namespace Go.Abs
open Go.Proofs Go.RowKit
def dvS (y : Int) : Int := 64 - (Lib.bitLen y.toNat : Int)
def dvY (y : Int) : Int := y * 2 ^ (dvS y).toNat
def dvU (x l y : Int) : Int := (x * 18446744073709551616 + l) * 2 ^ (dvS y).toNat
/-- 32 binary digits of the quotient -/
def dvQ (u n y : Int) : Int := (u * 4294967296 + n) / y
def dvR (u n y : Int) : Int := (u * 4294967296 + n) % y
/-- a digit's guess -/
structure DvI (u n y q r : Int) : Prop where
  eq : q * (y / 4294967296) + r = u
  r0 : 0 ≤ r
  r1 : r < 4294967296
  lo : dvQ u n y ≤ q
  hi : q ≤ u / (y / 4294967296)
def a57 (x l y : Int) : Anns :=
  let Y := dvY y
  let u := dvU x l y / 18446744073709551616
  let v := dvU x l y % 18446744073709551616
  let q1 := dvQ u (v / 4294967296) Y
  let u1 := dvR u (v / 4294967296) Y
  ⟨fun k => if k = 17 then some { α := Int × Int, slots := [2, 8, 9, 10, 11, 13, 14, 15, 16], nb := 0, vals := fun p => [.int .u64 Y, .int .u64 (dvS y), .int .u64 (Y / 4294967296), .int .u64 (Y % 4294967296), .int .u64 u, .int .u64 (v / 4294967296), .int .u64 (v % 4294967296), .int .u64 p.1, .int .u64 p.2], sS := fun _ => ⟨[], []⟩, I := fun p => DvI u (v / 4294967296) Y p.1 p.2, μ := fun p => p.1.toNat }
  else if k = 1000021 then some { α := Unit, slots := [2, 8, 9, 10, 11, 13, 14, 15], nb := 0, vals := fun _ => [.int .u64 Y, .int .u64 (dvS y), .int .u64 (Y / 4294967296), .int .u64 (Y % 4294967296), .int .u64 u, .int .u64 (v / 4294967296), .int .u64 (v % 4294967296), .int .u64 q1], sS := fun _ => ⟨[], []⟩, I := fun _ => True, μ := fun _ => 0 }
  else if k = 24 then some { α := Int × Int, slots := [2, 8, 9, 10, 14, 15, 17, 18, 16], nb := 0, vals := fun p => [.int .u64 Y, .int .u64 (dvS y), .int .u64 (Y / 4294967296), .int .u64 (Y % 4294967296), .int .u64 (v % 4294967296), .int .u64 q1, .int .u64 u1, .int .u64 p.1, .int .u64 p.2], sS := fun _ => ⟨[], []⟩, I := fun p => DvI u1 (v % 4294967296) Y p.1 p.2, μ := fun p => p.1.toNat }
  else if k = 1000028 then some { α := Unit, slots := [2, 8, 14, 15, 17, 18], nb := 0, vals := fun _ => [.int .u64 Y, .int .u64 (dvS y), .int .u64 (v % 4294967296), .int .u64 q1, .int .u64 u1, .int .u64 (dvQ u1 (v % 4294967296) Y)], sS := fun _ => ⟨[], []⟩, I := fun _ => True, μ := fun _ => 0 }
  else none, nA⟩
end Go.Abs

namespace Go.Abs
open Go.Proofs Go.Proofs.K17 Go.RowKit
theorem mul_split (q y : Int) : q * y = q * (y / 4294967296) * 4294967296 + q * (y % 4294967296) := by
  conv => lhs; rw [← Int.mul_ediv_add_emod y 4294967296]
  rw [Int.mul_add, Int.mul_comm 4294967296, Int.mul_assoc]
structure DvOk (u n y : Int) : Prop where
  y0 : 9223372036854775808 ≤ y
  y1 : y < 18446744073709551616
  u0 : 0 ≤ u
  u1 : u < y
  n0 : 0 ≤ n
  n1 : n < 4294967296
theorem dvQ_lo {u n y : Int} (h : DvOk u n y) : dvQ u n y * y ≤ u * 4294967296 + n := Int.ediv_mul_le _ (by have := h.y0; omega)
theorem dvQ_ge {u n y q : Int} (h : DvOk u n y) (hq : q * y ≤ u * 4294967296 + n) : q ≤ dvQ u n y := (Int.le_ediv_iff_mul_le (by have := h.y0; omega)).2 hq
theorem dvQ_lt {u n y q : Int} (h : DvOk u n y) (hq : u * 4294967296 + n < q * y) : dvQ u n y < q := (Int.ediv_lt_iff_lt_mul (by have := h.y0; omega)).2 hq
theorem dvQ_0 {u n y : Int} (h : DvOk u n y) : 0 ≤ dvQ u n y := Int.ediv_nonneg (by have := h.u0; have := h.n0; omega) (by have := h.y0; omega)
theorem dvQ_32 {u n y : Int} (h : DvOk u n y) : dvQ u n y < 4294967296 := dvQ_lt h (by have := h.u1; have := h.n1; omega)
theorem dvR_ok {u n y : Int} (h : DvOk u n y) : 0 ≤ dvR u n y ∧ dvR u n y < y ∧ u * 4294967296 + n = dvQ u n y * y + dvR u n y := by
  have := h.y0
  have e := Int.mul_ediv_add_emod (u * 4294967296 + n) y
  rw [Int.mul_comm] at e
  exact ⟨Int.emod_nonneg _ (by omega), Int.emod_lt_of_pos _ (by omega), e.symm⟩
theorem dv_q {u n y q r : Int} (h : DvOk u n y) (hi : DvI u n y q r) : 0 ≤ q ∧ q ≤ 4294967297 := by
  refine ⟨Int.le_trans (dvQ_0 h) hi.lo, Int.le_trans hi.hi ?_⟩
  have := h.y0; have := h.y1; have := h.u1
  have : u / (y / 4294967296) < 4294967298 := (Int.ediv_lt_iff_lt_mul (by omega)).2 (by omega)
  omega
theorem dv_start {u n y : Int} (h : DvOk u n y) : DvI u n y (u / (y / 4294967296)) (u % (y / 4294967296)) := by
  have h1 := h.y0; have h2 := h.y1; have h3 := h.u1; have h4 := h.u0; have h5 := h.n0; have h6 := h.n1
  have ha : 0 < y / 4294967296 := by omega
  refine ⟨?_, Int.emod_nonneg _ (by omega), ?_, ?_, Int.le_refl _⟩
  · have := Int.mul_ediv_add_emod u (y / 4294967296)
    rw [Int.mul_comm] at this; exact this
  · have := Int.emod_lt_of_pos u ha
    omega
  · refine (Int.le_ediv_iff_mul_le ha).2 ?_
    have a1 := dvQ_lo h
    rw [mul_split] at a1
    have a2 : 0 ≤ dvQ u n y * (y % 4294967296) := Int.mul_nonneg (dvQ_0 h) (by omega)
    omega
theorem dv_done {u n y q r : Int} (h : DvOk u n y) (eq : q * (y / 4294967296) + r = u) (lo : dvQ u n y ≤ q) (hc : q * (y % 4294967296) ≤ 4294967296 * r + n) : q = dvQ u n y := by
  have : q ≤ dvQ u n y := dvQ_ge h (by rw [mul_split q y]; omega)
  omega
theorem dv_dec {u n y q r : Int} (h : DvOk u n y) (hi : DvI u n y q r) (hc : 4294967296 ≤ q ∨ 4294967296 * r + n < q * (y % 4294967296)) :
    dvQ u n y ≤ q - 1 ∧ (q - 1) * (y / 4294967296) + (r + y / 4294967296) = u := by
  constructor
  · rcases hc with hc | hc
    · have := dvQ_32 h; omega
    · have : dvQ u n y < q := dvQ_lt h (by rw [mul_split q y]; have := hi.eq; omega)
      omega
  · rw [Int.sub_mul]; have := hi.eq; omega
theorem dv_next {u n y q r : Int} (h : DvOk u n y) (hi : DvI u n y q r) (hc : 4294967296 ≤ q ∨ 4294967296 * r + n < q * (y % 4294967296)) (hr : r + y / 4294967296 < 4294967296) : DvI u n y (q - 1) (r + y / 4294967296) := by
  obtain ⟨a1, a2⟩ := dv_dec h hi hc
  exact ⟨a2, by have := hi.r0; have := h.y0; omega, hr, a1, by have := hi.hi; omega⟩
theorem dv_end {u n y q r : Int} (h : DvOk u n y) (hi : DvI u n y q r) (hc : 4294967296 ≤ q ∨ 4294967296 * r + n < q * (y % 4294967296)) (hr : 4294967296 ≤ r + y / 4294967296) : q - 1 = dvQ u n y := by
  obtain ⟨a1, a2⟩ := dv_dec h hi hc
  refine dv_done h a2 a1 ?_
  have hq := (dv_q h hi).2
  have hb : 0 ≤ y % 4294967296 := by omega
  have := Int.mul_le_mul_of_nonneg_right (show q - 1 ≤ 4294967296 by omega) hb
  have := h.n0
  omega
/-- the whole quotient -/
theorem dv_whole {x l y Y u1 n1 n0 p : Int} (hp : 0 < p) (hY : Y = y * p) (_hy : 0 < y) (h1 : DvOk u1 n1 Y) (h0 : 0 ≤ n0 ∧ n0 < 4294967296) (hU : (x * 18446744073709551616 + l) * p = u1 * 18446744073709551616 + n1 * 4294967296 + n0) :
    dvQ u1 n1 Y * 4294967296 + dvQ (dvR u1 n1 Y) n0 Y = (x * 18446744073709551616 + l) / y ∧ dvR (dvR u1 n1 Y) n0 Y / p = (x * 18446744073709551616 + l) % y := by
  have r1 := dvR_ok h1
  have h2 : DvOk (dvR u1 n1 Y) n0 Y := ⟨h1.y0, h1.y1, r1.1, r1.2.1, h0.1, h0.2⟩
  have r2 := dvR_ok h2
  have hYp : 0 < Y := by have := h1.y0; omega
  generalize dvQ u1 n1 Y = q1 at *
  generalize dvR u1 n1 Y = m1 at *
  generalize dvQ m1 n0 Y = q0 at *
  generalize dvR m1 n0 Y = m0 at *
  generalize x * 18446744073709551616 + l = N at *
  have e : N * p = (q1 * 4294967296 + q0) * Y + m0 := by
    rw [Int.add_mul, Int.mul_right_comm]; omega
  have eq : (N * p) / Y = q1 * 4294967296 + q0 := by
    rw [e, Int.add_comm, Int.add_mul_ediv_right _ _ (by omega), Int.ediv_eq_zero_of_lt r2.1 r2.2.1]; omega
  have er : (N * p) % Y = m0 := by
    rw [e, Int.add_comm, Int.add_mul_emod_self_right, Int.emod_eq_of_lt r2.1 r2.2.1]
  subst hY
  rw [Int.mul_ediv_mul_of_pos_left _ _ hp] at eq
  rw [Int.mul_comm N p, Int.mul_comm y p, Int.mul_emod_mul_of_pos _ _ hp] at er
  exact ⟨eq.symm, by rw [← er]; exact Int.mul_ediv_cancel_left _ (by omega)⟩
theorem and_mask {v : Int} (h : uOk v) : IntKind.u64.wrap ((BitVec.ofInt IntKind.u64.bits v &&& BitVec.ofInt IntKind.u64.bits 4294967295).toNat : Int) = v % 4294967296 := by
  show IntKind.u64.wrap ((BitVec.ofInt 64 v &&& BitVec.ofInt 64 4294967295).toNat : Int) = v % 4294967296
  obtain ⟨h0, h1⟩ := h
  obtain ⟨n, rfl⟩ := Int.eq_ofNat_of_zero_le h0
  have e : (BitVec.ofInt 64 (n : Int) &&& BitVec.ofInt 64 4294967295).toNat = n % 4294967296 := by
    rw [BitVec.toNat_and, BitVec.ofInt_natCast, BitVec.toNat_ofNat, Nat.mod_eq_of_lt (by omega)]
    exact Nat.and_two_pow_sub_one_eq_mod n 32
  rw [e, wrapU]
  omega
theorem or_add {a b : Int} {s : Nat} (ha : 0 ≤ a) (hs : s ≤ 63) (hb : 0 ≤ b) (hb2 : b < 2 ^ s) (hu : a * 2 ^ s < 18446744073709551616) : IntKind.u64.wrap ((BitVec.ofInt IntKind.u64.bits (a * 2 ^ s) ||| BitVec.ofInt IntKind.u64.bits b).toNat : Int) = a * 2 ^ s + b := by
  show IntKind.u64.wrap ((BitVec.ofInt 64 (a * 2 ^ s) ||| BitVec.ofInt 64 b).toNat : Int) = _
  obtain ⟨A, rfl⟩ := Int.eq_ofNat_of_zero_le ha
  obtain ⟨B, rfl⟩ := Int.eq_ofNat_of_zero_le hb
  have hB : B < 2 ^ s := by
    have : ((B : Nat) : Int) < ((2 ^ s : Nat) : Int) := by rw [Int.natCast_pow]; exact hb2
    omega
  have hp : 2 ^ s ≤ 2 ^ 63 := Nat.pow_le_pow_right (by decide) hs
  have eA : ((A : Int) * 2 ^ s) = ((2 ^ s * A : Nat) : Int) := by
    rw [Int.natCast_mul, Int.natCast_pow, Int.mul_comm]; rfl
  have hA : 2 ^ s * A < 18446744073709551616 := by rw [eA] at hu; omega
  rw [eA]
  have e : (BitVec.ofInt 64 ((2 ^ s * A : Nat) : Int) ||| BitVec.ofInt 64 (B : Int)).toNat = 2 ^ s * A + B := by
    rw [BitVec.toNat_or, BitVec.ofInt_natCast, BitVec.toNat_ofNat, BitVec.ofInt_natCast, BitVec.toNat_ofNat, Nat.mod_eq_of_lt (by omega), Nat.mod_eq_of_lt (by omega), Nat.two_pow_add_eq_or_of_lt hB]
  have hsum : 2 ^ s * A + B < 18446744073709551616 := by
    rw [← e]; exact BitVec.isLt _
  rw [e, wrapU]
  omega
end Go.Abs

namespace Go.Abs
open Go.Proofs Go.RowKit
theorem w57 (x l y : Int) (r : AV) : (pureW PA GA XA (tbl [(64, s59)]) (itbl []) (a57 x l y) [] 43 [.int .u64 x, .int .u64 l, .int .u64 y] (r, [])) =
(((y == (0 : Int)) = true → False) ∧
  ((y == (0 : Int)) = false →
    (decide (y ≤ x) = true → False) ∧
      (decide (y ≤ x) = false →
        ((x == (0 : Int)) = true →
 y ≠ (0 : Int) ∧ y ≠ (0 : Int) ∧ RetIs (AV.tup [.int .u64 (IntKind.u64.wrap (l.tdiv y)), .int .u64 (l.tmod y)]) [] (r, [])) ∧
 ((x == (0 : Int)) = false →
 ∃ (n : Int),
 CallIs (tbl [(64, s59)] 64 [.int .u64 y]) (AV.int IntKind.i64 n) [] ∧
 (0 : Int) ≤ IntKind.u64.wrap n ∧
 (0 : Int) ≤ (32 : Int) ∧
 (0 : Int) ≤ IntKind.u64.wrap n ∧
 (0 : Int) ≤ IntKind.u64.wrap ((64 : Int) - IntKind.u64.wrap n) ∧
 (0 : Int) ≤ IntKind.u64.wrap n ∧
 (0 : Int) ≤ (32 : Int) ∧
 (IntKind.u64.wrap (y * (2 : Int) ^ min (IntKind.u64.wrap n).toNat 64)).fdiv (4294967296 : Int) ≠ (0 : Int) ∧
 ((∃ (y_1 : Int × Int),
 ValsAre
 [.int .u64 (IntKind.u64.wrap (y * (2 : Int) ^ min (IntKind.u64.wrap n).toNat 64)),
 .int .u64 (IntKind.u64.wrap n),
 .int .u64
 ((IntKind.u64.wrap (y * (2 : Int) ^ min (IntKind.u64.wrap n).toNat 64)).fdiv (4294967296 : Int)),
 .int .u64
 (IntKind.u64.wrap
 (↑(BitVec.ofInt IntKind.u64.bits
 (IntKind.u64.wrap (y * (2 : Int) ^ min (IntKind.u64.wrap n).toNat 64)) &&&
 BitVec.ofInt IntKind.u64.bits (4294967295 : Int)).toNat :
 Int)),
 .int .u64
 (IntKind.u64.wrap
 (↑(BitVec.ofInt IntKind.u64.bits
 (IntKind.u64.wrap (x * (2 : Int) ^ min (IntKind.u64.wrap n).toNat IntKind.u64.bits)) |||
 BitVec.ofInt IntKind.u64.bits
 (l.fdiv
 ((2 : Int) ^
 min (IntKind.u64.wrap ((64 : Int) - IntKind.u64.wrap n)).toNat IntKind.u64.bits))).toNat :
 Int)),
 .int .u64
 ((IntKind.u64.wrap (l * (2 : Int) ^ min (IntKind.u64.wrap n).toNat 64)).fdiv (4294967296 : Int)),
 .int .u64
 (IntKind.u64.wrap
 (↑(BitVec.ofInt IntKind.u64.bits
 (IntKind.u64.wrap (l * (2 : Int) ^ min (IntKind.u64.wrap n).toNat 64)) &&&
 BitVec.ofInt IntKind.u64.bits (4294967295 : Int)).toNat :
 Int)),
 .int .u64
 (IntKind.u64.wrap
 ((IntKind.u64.wrap
 (↑(BitVec.ofInt IntKind.u64.bits
 (IntKind.u64.wrap (x * (2 : Int) ^ min (IntKind.u64.wrap n).toNat IntKind.u64.bits)) |||
 BitVec.ofInt IntKind.u64.bits
 (l.fdiv
 ((2 : Int) ^
 min (IntKind.u64.wrap ((64 : Int) - IntKind.u64.wrap n)).toNat IntKind.u64.bits))).toNat :
 Int)).tdiv
 ((IntKind.u64.wrap (y * (2 : Int) ^ min (IntKind.u64.wrap n).toNat 64)).fdiv (4294967296 : Int)))),
 .int .u64
 (IntKind.u64.wrap
 (IntKind.u64.wrap
 (↑(BitVec.ofInt IntKind.u64.bits
 (IntKind.u64.wrap (x * (2 : Int) ^ min (IntKind.u64.wrap n).toNat IntKind.u64.bits)) |||
 BitVec.ofInt IntKind.u64.bits
 (l.fdiv
 ((2 : Int) ^
 min (IntKind.u64.wrap ((64 : Int) - IntKind.u64.wrap n)).toNat IntKind.u64.bits))).toNat :
 Int) -
 IntKind.u64.wrap
 (IntKind.u64.wrap
 ((IntKind.u64.wrap
 (↑(BitVec.ofInt IntKind.u64.bits
 (IntKind.u64.wrap (x * (2 : Int) ^ min (IntKind.u64.wrap n).toNat IntKind.u64.bits)) |||
 BitVec.ofInt IntKind.u64.bits
 (l.fdiv
 ((2 : Int) ^
 min (IntKind.u64.wrap ((64 : Int) - IntKind.u64.wrap n)).toNat
 IntKind.u64.bits))).toNat :
 Int)).tdiv
 ((IntKind.u64.wrap (y * (2 : Int) ^ min (IntKind.u64.wrap n).toNat 64)).fdiv
 (4294967296 : Int))) *
 (IntKind.u64.wrap (y * (2 : Int) ^ min (IntKind.u64.wrap n).toNat 64)).fdiv (4294967296 : Int))))]
 [.int .u64 (dvY y), .int .u64 (dvS y), .int .u64 (dvY y / (4294967296 : Int)),
 .int .u64 (dvY y % (4294967296 : Int)), .int .u64 (dvU x l y / (18446744073709551616 : Int)),
 .int .u64 (dvU x l y % (18446744073709551616 : Int) / (4294967296 : Int)),
 .int .u64 (dvU x l y % (18446744073709551616 : Int) % (4294967296 : Int)), .int .u64 y_1.fst,
 .int .u64 y_1.snd] ∧
 StIs { boxes := [], live := [] } { boxes := [], live := [] } ∧
 DvI (dvU x l y / (18446744073709551616 : Int)) (dvU x l y % (18446744073709551616 : Int) / (4294967296 : Int)) (dvY y)
 y_1.fst y_1.snd ∧
 True) ∧
 ∀ (x_1 : Int × Int),
 DvI (dvU x l y / (18446744073709551616 : Int)) (dvU x l y % (18446744073709551616 : Int) / (4294967296 : Int)) (dvY y)
 x_1.fst x_1.snd →
 (decide (x_1.fst ≥ (4294967296 : Int)) = true →
 (decide (IntKind.u64.wrap (x_1.snd + dvY y / (4294967296 : Int)) ≥ (4294967296 : Int)) = true →
 ∃ (_y_1 : Unit),
 ValsAre
 [.int .u64 (dvY y), .int .u64 (dvS y), .int .u64 (dvY y / (4294967296 : Int)),
 .int .u64 (dvY y % (4294967296 : Int)),
 .int .u64 (dvU x l y / (18446744073709551616 : Int)),
 .int .u64 (dvU x l y % (18446744073709551616 : Int) / (4294967296 : Int)),
 .int .u64 (dvU x l y % (18446744073709551616 : Int) % (4294967296 : Int)),
 .int .u64 (IntKind.u64.wrap (x_1.fst - (1 : Int)))]
 [.int .u64 (dvY y), .int .u64 (dvS y), .int .u64 (dvY y / (4294967296 : Int)),
 .int .u64 (dvY y % (4294967296 : Int)),
 .int .u64 (dvU x l y / (18446744073709551616 : Int)),
 .int .u64 (dvU x l y % (18446744073709551616 : Int) / (4294967296 : Int)),
 .int .u64 (dvU x l y % (18446744073709551616 : Int) % (4294967296 : Int)),
 .int .u64
 (dvQ (dvU x l y / (18446744073709551616 : Int))
 (dvU x l y % (18446744073709551616 : Int) / (4294967296 : Int)) (dvY y))] ∧
 StIs { boxes := [], live := [] } { boxes := [], live := [] } ∧ True ∧ True) ∧
 (decide (IntKind.u64.wrap (x_1.snd + dvY y / (4294967296 : Int)) ≥ (4294967296 : Int)) = false →
 ∃ (y_1 : Int × Int),
 ValsAre
 [.int .u64 (dvY y), .int .u64 (dvS y), .int .u64 (dvY y / (4294967296 : Int)),
 .int .u64 (dvY y % (4294967296 : Int)),
 .int .u64 (dvU x l y / (18446744073709551616 : Int)),
 .int .u64 (dvU x l y % (18446744073709551616 : Int) / (4294967296 : Int)),
 .int .u64 (dvU x l y % (18446744073709551616 : Int) % (4294967296 : Int)),
 .int .u64 (IntKind.u64.wrap (x_1.fst - (1 : Int))),
 .int .u64 (IntKind.u64.wrap (x_1.snd + dvY y / (4294967296 : Int)))]
 [.int .u64 (dvY y), .int .u64 (dvS y), .int .u64 (dvY y / (4294967296 : Int)),
 .int .u64 (dvY y % (4294967296 : Int)),
 .int .u64 (dvU x l y / (18446744073709551616 : Int)),
 .int .u64 (dvU x l y % (18446744073709551616 : Int) / (4294967296 : Int)),
 .int .u64 (dvU x l y % (18446744073709551616 : Int) % (4294967296 : Int)),
 .int .u64 y_1.fst, .int .u64 y_1.snd] ∧
 StIs { boxes := [], live := [] } { boxes := [], live := [] } ∧
 DvI (dvU x l y / (18446744073709551616 : Int))
 (dvU x l y % (18446744073709551616 : Int) / (4294967296 : Int)) (dvY y) y_1.fst y_1.snd ∧
 y_1.fst.toNat < x_1.fst.toNat)) ∧
 (decide (x_1.fst ≥ (4294967296 : Int)) = false →
 (decide
 (IntKind.u64.wrap (x_1.fst * (dvY y % (4294967296 : Int))) >
 IntKind.u64.wrap
 (IntKind.u64.wrap ((4294967296 : Int) * x_1.snd) +
 dvU x l y % (18446744073709551616 : Int) / (4294967296 : Int))) =
 true →
 (decide (IntKind.u64.wrap (x_1.snd + dvY y / (4294967296 : Int)) ≥ (4294967296 : Int)) = true →
 ∃ (_y_1 : Unit),
 ValsAre
 [.int .u64 (dvY y), .int .u64 (dvS y),
 .int .u64 (dvY y / (4294967296 : Int)), .int .u64 (dvY y % (4294967296 : Int)),
 .int .u64 (dvU x l y / (18446744073709551616 : Int)),
 .int .u64 (dvU x l y % (18446744073709551616 : Int) / (4294967296 : Int)),
 .int .u64 (dvU x l y % (18446744073709551616 : Int) % (4294967296 : Int)),
 .int .u64 (IntKind.u64.wrap (x_1.fst - (1 : Int)))]
 [.int .u64 (dvY y), .int .u64 (dvS y),
 .int .u64 (dvY y / (4294967296 : Int)), .int .u64 (dvY y % (4294967296 : Int)),
 .int .u64 (dvU x l y / (18446744073709551616 : Int)),
 .int .u64 (dvU x l y % (18446744073709551616 : Int) / (4294967296 : Int)),
 .int .u64 (dvU x l y % (18446744073709551616 : Int) % (4294967296 : Int)),
 .int .u64
 (dvQ (dvU x l y / (18446744073709551616 : Int))
 (dvU x l y % (18446744073709551616 : Int) / (4294967296 : Int)) (dvY y))] ∧
 StIs { boxes := [], live := [] } { boxes := [], live := [] } ∧ True ∧ True) ∧
 (decide (IntKind.u64.wrap (x_1.snd + dvY y / (4294967296 : Int)) ≥ (4294967296 : Int)) = false →
 ∃ (y_1 : Int × Int),
 ValsAre
 [.int .u64 (dvY y), .int .u64 (dvS y),
 .int .u64 (dvY y / (4294967296 : Int)), .int .u64 (dvY y % (4294967296 : Int)),
 .int .u64 (dvU x l y / (18446744073709551616 : Int)),
 .int .u64 (dvU x l y % (18446744073709551616 : Int) / (4294967296 : Int)),
 .int .u64 (dvU x l y % (18446744073709551616 : Int) % (4294967296 : Int)),
 .int .u64 (IntKind.u64.wrap (x_1.fst - (1 : Int))),
 .int .u64 (IntKind.u64.wrap (x_1.snd + dvY y / (4294967296 : Int)))]
 [.int .u64 (dvY y), .int .u64 (dvS y),
 .int .u64 (dvY y / (4294967296 : Int)), .int .u64 (dvY y % (4294967296 : Int)),
 .int .u64 (dvU x l y / (18446744073709551616 : Int)),
 .int .u64 (dvU x l y % (18446744073709551616 : Int) / (4294967296 : Int)),
 .int .u64 (dvU x l y % (18446744073709551616 : Int) % (4294967296 : Int)),
 .int .u64 y_1.fst, .int .u64 y_1.snd] ∧
 StIs { boxes := [], live := [] } { boxes := [], live := [] } ∧
 DvI (dvU x l y / (18446744073709551616 : Int))
 (dvU x l y % (18446744073709551616 : Int) / (4294967296 : Int)) (dvY y) y_1.fst y_1.snd ∧
 y_1.fst.toNat < x_1.fst.toNat)) ∧
 (decide
 (IntKind.u64.wrap (x_1.fst * (dvY y % (4294967296 : Int))) >
 IntKind.u64.wrap
 (IntKind.u64.wrap ((4294967296 : Int) * x_1.snd) +
 dvU x l y % (18446744073709551616 : Int) / (4294967296 : Int))) =
 false →
 ∃ (_y_1 : Unit),
 ValsAre
 [.int .u64 (dvY y), .int .u64 (dvS y), .int .u64 (dvY y / (4294967296 : Int)),
 .int .u64 (dvY y % (4294967296 : Int)),
 .int .u64 (dvU x l y / (18446744073709551616 : Int)),
 .int .u64 (dvU x l y % (18446744073709551616 : Int) / (4294967296 : Int)),
 .int .u64 (dvU x l y % (18446744073709551616 : Int) % (4294967296 : Int)),
 .int .u64 x_1.fst]
 [.int .u64 (dvY y), .int .u64 (dvS y), .int .u64 (dvY y / (4294967296 : Int)),
 .int .u64 (dvY y % (4294967296 : Int)),
 .int .u64 (dvU x l y / (18446744073709551616 : Int)),
 .int .u64 (dvU x l y % (18446744073709551616 : Int) / (4294967296 : Int)),
 .int .u64 (dvU x l y % (18446744073709551616 : Int) % (4294967296 : Int)),
 .int .u64
 (dvQ (dvU x l y / (18446744073709551616 : Int))
 (dvU x l y % (18446744073709551616 : Int) / (4294967296 : Int)) (dvY y))] ∧
 StIs { boxes := [], live := [] } { boxes := [], live := [] } ∧ True ∧ True))) ∧
 ∀ (_x_1 : Unit),
 True →
 True →
 dvY y / (4294967296 : Int) ≠ (0 : Int) ∧
 ((∃ (y_1 : Int × Int),
 ValsAre
 [.int .u64 (dvY y), .int .u64 (dvS y), .int .u64 (dvY y / (4294967296 : Int)),
 .int .u64 (dvY y % (4294967296 : Int)),
 .int .u64 (dvU x l y % (18446744073709551616 : Int) % (4294967296 : Int)),
 .int .u64
 (dvQ (dvU x l y / (18446744073709551616 : Int))
 (dvU x l y % (18446744073709551616 : Int) / (4294967296 : Int)) (dvY y)),
 .int .u64
 (IntKind.u64.wrap
 (IntKind.u64.wrap
 (IntKind.u64.wrap (dvU x l y / (18446744073709551616 : Int) * (4294967296 : Int)) +
 dvU x l y % (18446744073709551616 : Int) / (4294967296 : Int)) -
 IntKind.u64.wrap
 (dvQ (dvU x l y / (18446744073709551616 : Int))
 (dvU x l y % (18446744073709551616 : Int) / (4294967296 : Int)) (dvY y) *
 dvY y))),
 .int .u64
 (IntKind.u64.wrap
 ((IntKind.u64.wrap
 (IntKind.u64.wrap
 (IntKind.u64.wrap (dvU x l y / (18446744073709551616 : Int) * (4294967296 : Int)) +
 dvU x l y % (18446744073709551616 : Int) / (4294967296 : Int)) -
 IntKind.u64.wrap
 (dvQ (dvU x l y / (18446744073709551616 : Int))
 (dvU x l y % (18446744073709551616 : Int) / (4294967296 : Int)) (dvY y) *
 dvY y))).tdiv
 (dvY y / (4294967296 : Int)))),
 .int .u64
 (IntKind.u64.wrap
 (IntKind.u64.wrap
 (IntKind.u64.wrap
 (IntKind.u64.wrap (dvU x l y / (18446744073709551616 : Int) * (4294967296 : Int)) +
 dvU x l y % (18446744073709551616 : Int) / (4294967296 : Int)) -
 IntKind.u64.wrap
 (dvQ (dvU x l y / (18446744073709551616 : Int))
 (dvU x l y % (18446744073709551616 : Int) / (4294967296 : Int)) (dvY y) *
 dvY y)) -
 IntKind.u64.wrap
 (IntKind.u64.wrap
 ((IntKind.u64.wrap
 (IntKind.u64.wrap
 (IntKind.u64.wrap (dvU x l y / (18446744073709551616 : Int) * (4294967296 : Int)) +
 dvU x l y % (18446744073709551616 : Int) / (4294967296 : Int)) -
 IntKind.u64.wrap
 (dvQ (dvU x l y / (18446744073709551616 : Int))
 (dvU x l y % (18446744073709551616 : Int) / (4294967296 : Int)) (dvY y) *
 dvY y))).tdiv
 (dvY y / (4294967296 : Int))) *
 (dvY y / (4294967296 : Int)))))]
 [.int .u64 (dvY y), .int .u64 (dvS y), .int .u64 (dvY y / (4294967296 : Int)),
 .int .u64 (dvY y % (4294967296 : Int)),
 .int .u64 (dvU x l y % (18446744073709551616 : Int) % (4294967296 : Int)),
 .int .u64
 (dvQ (dvU x l y / (18446744073709551616 : Int))
 (dvU x l y % (18446744073709551616 : Int) / (4294967296 : Int)) (dvY y)),
 .int .u64
 (dvR (dvU x l y / (18446744073709551616 : Int))
 (dvU x l y % (18446744073709551616 : Int) / (4294967296 : Int)) (dvY y)),
 .int .u64 y_1.fst, .int .u64 y_1.snd] ∧
 StIs { boxes := [], live := [] } { boxes := [], live := [] } ∧
 DvI
 (dvR (dvU x l y / (18446744073709551616 : Int))
 (dvU x l y % (18446744073709551616 : Int) / (4294967296 : Int)) (dvY y))
 (dvU x l y % (18446744073709551616 : Int) % (4294967296 : Int)) (dvY y) y_1.fst y_1.snd ∧
 True) ∧
 ∀ (x_2 : Int × Int),
 DvI
 (dvR (dvU x l y / (18446744073709551616 : Int))
 (dvU x l y % (18446744073709551616 : Int) / (4294967296 : Int)) (dvY y))
 (dvU x l y % (18446744073709551616 : Int) % (4294967296 : Int)) (dvY y) x_2.fst x_2.snd →
 (decide (x_2.fst ≥ (4294967296 : Int)) = true →
 (decide (IntKind.u64.wrap (x_2.snd + dvY y / (4294967296 : Int)) ≥ (4294967296 : Int)) = true →
 ∃ (_y_1 : Unit),
 ValsAre
 [.int .u64 (dvY y), .int .u64 (dvS y),
 .int .u64 (dvU x l y % (18446744073709551616 : Int) % (4294967296 : Int)),
 .int .u64
 (dvQ (dvU x l y / (18446744073709551616 : Int))
 (dvU x l y % (18446744073709551616 : Int) / (4294967296 : Int)) (dvY y)),
 .int .u64
 (dvR (dvU x l y / (18446744073709551616 : Int))
 (dvU x l y % (18446744073709551616 : Int) / (4294967296 : Int)) (dvY y)),
 .int .u64 (IntKind.u64.wrap (x_2.fst - (1 : Int)))]
 [.int .u64 (dvY y), .int .u64 (dvS y),
 .int .u64 (dvU x l y % (18446744073709551616 : Int) % (4294967296 : Int)),
 .int .u64
 (dvQ (dvU x l y / (18446744073709551616 : Int))
 (dvU x l y % (18446744073709551616 : Int) / (4294967296 : Int)) (dvY y)),
 .int .u64
 (dvR (dvU x l y / (18446744073709551616 : Int))
 (dvU x l y % (18446744073709551616 : Int) / (4294967296 : Int)) (dvY y)),
 .int .u64
 (dvQ
 (dvR (dvU x l y / (18446744073709551616 : Int))
 (dvU x l y % (18446744073709551616 : Int) / (4294967296 : Int)) (dvY y))
 (dvU x l y % (18446744073709551616 : Int) % (4294967296 : Int)) (dvY y))] ∧
 StIs { boxes := [], live := [] } { boxes := [], live := [] } ∧ True ∧ True) ∧
 (decide (IntKind.u64.wrap (x_2.snd + dvY y / (4294967296 : Int)) ≥ (4294967296 : Int)) = false →
 ∃ (y_1 : Int × Int),
 ValsAre
 [.int .u64 (dvY y), .int .u64 (dvS y),
 .int .u64 (dvY y / (4294967296 : Int)),
 .int .u64 (dvY y % (4294967296 : Int)),
 .int .u64 (dvU x l y % (18446744073709551616 : Int) % (4294967296 : Int)),
 .int .u64
 (dvQ (dvU x l y / (18446744073709551616 : Int))
 (dvU x l y % (18446744073709551616 : Int) / (4294967296 : Int)) (dvY y)),
 .int .u64
 (dvR (dvU x l y / (18446744073709551616 : Int))
 (dvU x l y % (18446744073709551616 : Int) / (4294967296 : Int)) (dvY y)),
 .int .u64 (IntKind.u64.wrap (x_2.fst - (1 : Int))),
 .int .u64 (IntKind.u64.wrap (x_2.snd + dvY y / (4294967296 : Int)))]
 [.int .u64 (dvY y), .int .u64 (dvS y),
 .int .u64 (dvY y / (4294967296 : Int)),
 .int .u64 (dvY y % (4294967296 : Int)),
 .int .u64 (dvU x l y % (18446744073709551616 : Int) % (4294967296 : Int)),
 .int .u64
 (dvQ (dvU x l y / (18446744073709551616 : Int))
 (dvU x l y % (18446744073709551616 : Int) / (4294967296 : Int)) (dvY y)),
 .int .u64
 (dvR (dvU x l y / (18446744073709551616 : Int))
 (dvU x l y % (18446744073709551616 : Int) / (4294967296 : Int)) (dvY y)),
 .int .u64 y_1.fst, .int .u64 y_1.snd] ∧
 StIs { boxes := [], live := [] } { boxes := [], live := [] } ∧
 DvI
 (dvR (dvU x l y / (18446744073709551616 : Int))
 (dvU x l y % (18446744073709551616 : Int) / (4294967296 : Int)) (dvY y))
 (dvU x l y % (18446744073709551616 : Int) % (4294967296 : Int)) (dvY y) y_1.fst y_1.snd ∧
 y_1.fst.toNat < x_2.fst.toNat)) ∧
 (decide (x_2.fst ≥ (4294967296 : Int)) = false →
 (decide
 (IntKind.u64.wrap (x_2.fst * (dvY y % (4294967296 : Int))) >
 IntKind.u64.wrap
 (IntKind.u64.wrap ((4294967296 : Int) * x_2.snd) +
 dvU x l y % (18446744073709551616 : Int) % (4294967296 : Int))) =
 true →
 (decide (IntKind.u64.wrap (x_2.snd + dvY y / (4294967296 : Int)) ≥ (4294967296 : Int)) = true →
 ∃ (_y_1 : Unit),
 ValsAre
 [.int .u64 (dvY y), .int .u64 (dvS y),
 .int .u64 (dvU x l y % (18446744073709551616 : Int) % (4294967296 : Int)),
 .int .u64
 (dvQ (dvU x l y / (18446744073709551616 : Int))
 (dvU x l y % (18446744073709551616 : Int) / (4294967296 : Int)) (dvY y)),
 .int .u64
 (dvR (dvU x l y / (18446744073709551616 : Int))
 (dvU x l y % (18446744073709551616 : Int) / (4294967296 : Int)) (dvY y)),
 .int .u64 (IntKind.u64.wrap (x_2.fst - (1 : Int)))]
 [.int .u64 (dvY y), .int .u64 (dvS y),
 .int .u64 (dvU x l y % (18446744073709551616 : Int) % (4294967296 : Int)),
 .int .u64
 (dvQ (dvU x l y / (18446744073709551616 : Int))
 (dvU x l y % (18446744073709551616 : Int) / (4294967296 : Int)) (dvY y)),
 .int .u64
 (dvR (dvU x l y / (18446744073709551616 : Int))
 (dvU x l y % (18446744073709551616 : Int) / (4294967296 : Int)) (dvY y)),
 .int .u64
 (dvQ
 (dvR (dvU x l y / (18446744073709551616 : Int))
 (dvU x l y % (18446744073709551616 : Int) / (4294967296 : Int)) (dvY y))
 (dvU x l y % (18446744073709551616 : Int) % (4294967296 : Int)) (dvY y))] ∧
 StIs { boxes := [], live := [] } { boxes := [], live := [] } ∧ True ∧ True) ∧
 (decide (IntKind.u64.wrap (x_2.snd + dvY y / (4294967296 : Int)) ≥ (4294967296 : Int)) = false →
 ∃ (y_1 : Int × Int),
 ValsAre
 [.int .u64 (dvY y), .int .u64 (dvS y),
 .int .u64 (dvY y / (4294967296 : Int)),
 .int .u64 (dvY y % (4294967296 : Int)),
 .int .u64 (dvU x l y % (18446744073709551616 : Int) % (4294967296 : Int)),
 .int .u64
 (dvQ (dvU x l y / (18446744073709551616 : Int))
 (dvU x l y % (18446744073709551616 : Int) / (4294967296 : Int)) (dvY y)),
 .int .u64
 (dvR (dvU x l y / (18446744073709551616 : Int))
 (dvU x l y % (18446744073709551616 : Int) / (4294967296 : Int)) (dvY y)),
 .int .u64 (IntKind.u64.wrap (x_2.fst - (1 : Int))),
 .int .u64 (IntKind.u64.wrap (x_2.snd + dvY y / (4294967296 : Int)))]
 [.int .u64 (dvY y), .int .u64 (dvS y),
 .int .u64 (dvY y / (4294967296 : Int)),
 .int .u64 (dvY y % (4294967296 : Int)),
 .int .u64 (dvU x l y % (18446744073709551616 : Int) % (4294967296 : Int)),
 .int .u64
 (dvQ (dvU x l y / (18446744073709551616 : Int))
 (dvU x l y % (18446744073709551616 : Int) / (4294967296 : Int)) (dvY y)),
 .int .u64
 (dvR (dvU x l y / (18446744073709551616 : Int))
 (dvU x l y % (18446744073709551616 : Int) / (4294967296 : Int)) (dvY y)),
 .int .u64 y_1.fst, .int .u64 y_1.snd] ∧
 StIs { boxes := [], live := [] } { boxes := [], live := [] } ∧
 DvI
 (dvR (dvU x l y / (18446744073709551616 : Int))
 (dvU x l y % (18446744073709551616 : Int) / (4294967296 : Int)) (dvY y))
 (dvU x l y % (18446744073709551616 : Int) % (4294967296 : Int)) (dvY y) y_1.fst y_1.snd ∧
 y_1.fst.toNat < x_2.fst.toNat)) ∧
 (decide
 (IntKind.u64.wrap (x_2.fst * (dvY y % (4294967296 : Int))) >
 IntKind.u64.wrap
 (IntKind.u64.wrap ((4294967296 : Int) * x_2.snd) +
 dvU x l y % (18446744073709551616 : Int) % (4294967296 : Int))) =
 false →
 ∃ (_y_1 : Unit),
 ValsAre
 [.int .u64 (dvY y), .int .u64 (dvS y),
 .int .u64 (dvU x l y % (18446744073709551616 : Int) % (4294967296 : Int)),
 .int .u64
 (dvQ (dvU x l y / (18446744073709551616 : Int))
 (dvU x l y % (18446744073709551616 : Int) / (4294967296 : Int)) (dvY y)),
 .int .u64
 (dvR (dvU x l y / (18446744073709551616 : Int))
 (dvU x l y % (18446744073709551616 : Int) / (4294967296 : Int)) (dvY y)),
 .int .u64 x_2.fst]
 [.int .u64 (dvY y), .int .u64 (dvS y),
 .int .u64 (dvU x l y % (18446744073709551616 : Int) % (4294967296 : Int)),
 .int .u64
 (dvQ (dvU x l y / (18446744073709551616 : Int))
 (dvU x l y % (18446744073709551616 : Int) / (4294967296 : Int)) (dvY y)),
 .int .u64
 (dvR (dvU x l y / (18446744073709551616 : Int))
 (dvU x l y % (18446744073709551616 : Int) / (4294967296 : Int)) (dvY y)),
 .int .u64
 (dvQ
 (dvR (dvU x l y / (18446744073709551616 : Int))
 (dvU x l y % (18446744073709551616 : Int) / (4294967296 : Int)) (dvY y))
 (dvU x l y % (18446744073709551616 : Int) % (4294967296 : Int)) (dvY y))] ∧
 StIs { boxes := [], live := [] } { boxes := [], live := [] } ∧ True ∧ True))) ∧
 ∀ (_x_2 : Unit),
 True →
 True →
 (0 : Int) ≤ dvS y ∧
 RetIs
 (AV.tup
 [.int .u64
 (IntKind.u64.wrap
 (IntKind.u64.wrap
 (dvQ (dvU x l y / (18446744073709551616 : Int))
 (dvU x l y % (18446744073709551616 : Int) / (4294967296 : Int)) (dvY y) *
 (4294967296 : Int)) +
 dvQ
 (dvR (dvU x l y / (18446744073709551616 : Int))
 (dvU x l y % (18446744073709551616 : Int) / (4294967296 : Int)) (dvY y))
 (dvU x l y % (18446744073709551616 : Int) % (4294967296 : Int)) (dvY y))),
 .int .u64
 ((IntKind.u64.wrap
 (IntKind.u64.wrap
 (IntKind.u64.wrap
 (dvR (dvU x l y / (18446744073709551616 : Int))
 (dvU x l y % (18446744073709551616 : Int) / (4294967296 : Int)) (dvY y) *
 (4294967296 : Int)) +
 dvU x l y % (18446744073709551616 : Int) % (4294967296 : Int)) -
 IntKind.u64.wrap
 (dvQ
 (dvR (dvU x l y / (18446744073709551616 : Int))
 (dvU x l y % (18446744073709551616 : Int) / (4294967296 : Int)) (dvY y))
 (dvU x l y % (18446744073709551616 : Int) % (4294967296 : Int)) (dvY y) *
 dvY y))).fdiv
 ((2 : Int) ^ min (dvS y).toNat 64))])
 [] (r, []))))) := by kernel_rfl
end Go.Abs

namespace Go.Abs
open Go.Proofs Go.Proofs.K17 Go.RowKit
theorem dvS_ok {y : Int} (h : uOk y) (h0 : 0 < y) : 0 ≤ dvS y ∧ dvS y ≤ 63 ∧ 9223372036854775808 ≤ dvY y ∧ dvY y < 18446744073709551616 := by
  obtain ⟨n, rfl⟩ := Int.eq_ofNat_of_zero_le h.1
  have hn : n < 2 ^ 64 := by have := h.2; omega
  have hp : 0 < n := by omega
  have e : dvS (n : Int) = 64 - (Lib.bitLen n : Int) := rfl
  have hb : Lib.bitLen n ≤ 64 := Lib.bitLen_le n 64 (by omega) (by omega)
  have h1 := bitLen_lt n hn
  have h2 := le_bitLen n hp hn
  have h3 : Lib.bitLen n ≠ 0 := fun e0 => by rw [e0] at h1; omega
  have hs : (dvS (n : Int)).toNat = 64 - Lib.bitLen n := by rw [e]; omega
  have eY : dvY (n : Int) = ((n * 2 ^ (64 - Lib.bitLen n) : Nat) : Int) := by
    unfold dvY; rw [hs, Int.natCast_mul, Int.natCast_pow]; rfl
  rw [eY, e]
  have e1 : 2 ^ (Lib.bitLen n) * 2 ^ (64 - Lib.bitLen n) = 2 ^ 64 := by rw [← Nat.pow_add]; congr 1; omega
  have e2 : 2 ^ (Lib.bitLen n - 1) * 2 ^ (64 - Lib.bitLen n) = 2 ^ 63 := by rw [← Nat.pow_add]; congr 1; omega
  have hpp : 0 < 2 ^ (64 - Lib.bitLen n) := Nat.two_pow_pos _
  have a1 := Nat.mul_lt_mul_of_pos_right h1 hpp
  have a2 := Nat.mul_le_mul_right (2 ^ (64 - Lib.bitLen n)) h2
  rw [e1] at a1
  rw [e2] at a2
  refine ⟨by omega, by omega, by omega, by omega⟩
theorem dv_first {u n y : Int} (h : DvOk u n y) : IntKind.u64.wrap (u.tdiv (y / 4294967296)) = u / (y / 4294967296) ∧ IntKind.u64.wrap (u - IntKind.u64.wrap (u / (y / 4294967296) * (y / 4294967296))) = u % (y / 4294967296) := by
  have h1 := h.y0; have h2 := h.y1; have h3 := h.u1; have h4 := h.u0
  have a0 : 0 ≤ u / (y / 4294967296) := Int.ediv_nonneg h4 (by omega)
  have a1 : u / (y / 4294967296) ≤ u := Int.ediv_le_self _ h4
  have e := Int.mul_ediv_add_emod u (y / 4294967296)
  have b0 : 0 ≤ u % (y / 4294967296) := Int.emod_nonneg _ (by omega)
  rw [Int.mul_comm] at e
  have m0 : 0 ≤ u / (y / 4294967296) * (y / 4294967296) := Int.mul_nonneg a0 (by omega)
  refine ⟨?_, ?_⟩
  · rw [Int.tdiv_eq_ediv_of_nonneg h4, wrapU]; omega
  · generalize u / (y / 4294967296) * (y / 4294967296) = m at *
    generalize u % (y / 4294967296) = k at *
    rw [wrapU, wrapU]; omega
theorem dv_cmp {q r n y : Int} (h0 : 0 ≤ q) (h1 : q < 4294967296) (r0 : 0 ≤ r) (r1 : r < 4294967296) (n0 : 0 ≤ n) (n1 : n < 4294967296) : IntKind.u64.wrap (q * (y % 4294967296)) = q * (y % 4294967296) ∧ IntKind.u64.wrap (IntKind.u64.wrap (4294967296 * r) + n) = 4294967296 * r + n := by
  have hb : 0 ≤ y % 4294967296 := by omega
  have m0 := Int.mul_nonneg h0 hb
  have m1 := Int.mul_le_mul_of_nonneg_right (show q ≤ 4294967295 by omega) hb
  exact ⟨by rw [wrapU]; omega, by rw [wrapU, wrapU]; omega⟩
theorem dv_w1 {u n y q r : Int} (h : DvOk u n y) (hi : DvI u n y q r) (hc : 4294967296 ≤ q ∨ 4294967296 * r + n < q * (y % 4294967296)) : IntKind.u64.wrap (q - 1) = q - 1 ∧ 1 ≤ q := by
  have := dv_dec h hi hc
  have := dvQ_0 h
  have := dv_q h hi
  exact ⟨by rw [wrapU]; omega, by omega⟩
theorem dv_w2 {u n y q r : Int} (h : DvOk u n y) (hi : DvI u n y q r) : IntKind.u64.wrap (r + y / 4294967296) = r + y / 4294967296 := by
  have := hi.r0; have := hi.r1; have := h.y0; have := h.y1
  rw [wrapU]; omega
theorem p57 (x l y : Int) (hx : uOk x) (hl : uOk l) (hy : uOk y) (h : x < y) : PureOk PA GA XA (tbl [(64, s59)]) (itbl []) (a57 x l y) [] 43 [.int .u64 x, .int .u64 l, .int .u64 y] (.tup [.int .u64 ((x * 18446744073709551616 + l) / y), .int .u64 ((x * 18446744073709551616 + l) % y)], []) := by
  constructor
  rw [w57]
  have hy0 : 0 < y := by have := hx.1; omega
  refine ⟨fun h0 => absurd h0 (by simp; omega), fun _ => ⟨fun h0 => absurd (of_decide_eq_true h0) (by omega), fun _ => ⟨fun h0 => ⟨by omega, by omega, retIs_iff.2 ?_⟩, fun h0 => ?_⟩⟩⟩
  · have h0 : x = 0 := by simpa using h0
    subst h0
    rw [Int.zero_mul, Int.zero_add, Int.tdiv_eq_ediv_of_nonneg hl.1, Int.tmod_eq_emod_of_nonneg hl.1, wrapU, Int.emod_eq_of_lt (Int.ediv_nonneg hl.1 hy.1) (Int.lt_of_le_of_lt (Int.ediv_le_self _ hl.1) hl.2)]
  obtain ⟨hs0, hs1, hY0, hY1⟩ := dvS_ok hy hy0
  have hx0 := hx.1
  have hl0 := hl.1
  have hl1 := hl.2
  refine ⟨dvS y, callIs_iff.2 (by rw [tb_hit]; simp only [s59]; rw [if_pos hy]; rfl), ?_⟩
  have ew : IntKind.u64.wrap (dvS y) = dvS y := by rw [wrapU]; omega
  have ew2 : IntKind.u64.wrap (64 - dvS y) = 64 - dvS y := by rw [wrapU]; omega
  have em : min (dvS y).toNat 64 = (dvS y).toNat := by omega
  have em1 : min (dvS y).toNat IntKind.u64.bits = (dvS y).toNat := em
  have em2 : min (64 - dvS y).toNat IntKind.u64.bits = (64 - dvS y).toNat := by show min _ 64 = _; omega
  have eY : IntKind.u64.wrap (y * 2 ^ (dvS y).toNat) = dvY y := by
    rw [wrapU]; exact Int.emod_eq_of_lt (by unfold dvY at hY0; omega) hY1
  have hp : (0 : Int) < 2 ^ (dvS y).toNat := by
    have : ((2 ^ (dvS y).toNat : Nat) : Int) = 2 ^ (dvS y).toNat := by rw [Int.natCast_pow]; rfl
    rw [← this]; have := Nat.two_pow_pos (dvS y).toNat; omega
  have hp2 : (0 : Int) < 2 ^ (64 - dvS y).toNat := by
    have : ((2 ^ (64 - dvS y).toNat : Nat) : Int) = 2 ^ (64 - dvS y).toNat := by rw [Int.natCast_pow]; rfl
    rw [← this]; have := Nat.two_pow_pos (64 - dvS y).toNat; omega
  have hpp : (2 : Int) ^ (dvS y).toNat * 2 ^ (64 - dvS y).toNat = 18446744073709551616 := by
    rw [← Int.pow_add, show (dvS y).toNat + (64 - dvS y).toNat = 64 by omega]; rfl
  have hxp : x * 2 ^ (dvS y).toNat < dvY y := Int.mul_lt_mul_of_pos_right h hp
  have hxp0 : 0 ≤ x * 2 ^ (dvS y).toNat := Int.mul_nonneg hx0 (Int.le_of_lt hp)
  have ex : IntKind.u64.wrap (x * 2 ^ (dvS y).toNat) = x * 2 ^ (dvS y).toNat := by rw [wrapU]; exact Int.emod_eq_of_lt hxp0 (by omega)
  have hb0 : 0 ≤ l / 2 ^ (64 - dvS y).toNat := Int.ediv_nonneg hl0 (Int.le_of_lt hp2)
  have hb1 : l / 2 ^ (64 - dvS y).toNat < 2 ^ (dvS y).toNat := (Int.ediv_lt_iff_lt_mul hp2).2 (by rw [hpp]; exact hl1)
  have eor := or_add hx0 (show (dvS y).toNat ≤ 63 by omega) hb0 hb1 (by omega)
  have eU : dvU x l y / 18446744073709551616 = x * 2 ^ (dvS y).toNat + l / 2 ^ (64 - dvS y).toNat := by
    unfold dvU
    rw [Int.add_mul, Int.mul_right_comm, Int.add_comm, Int.add_mul_ediv_right _ _ (by decide)]
    have : l * 2 ^ (dvS y).toNat / 18446744073709551616 = l / 2 ^ (64 - dvS y).toNat := by
      rw [← hpp, Int.mul_comm (2 ^ (dvS y).toNat), Int.mul_ediv_mul_of_pos_left _ _ hp]
    rw [this, Int.add_comm]
  have eV : dvU x l y % 18446744073709551616 = IntKind.u64.wrap (l * 2 ^ (dvS y).toNat) := by
    unfold dvU
    rw [wrapU, Int.add_mul, Int.mul_right_comm, Int.add_comm, Int.add_mul_emod_self_right]
  have hU0 : 0 ≤ dvU x l y / 18446744073709551616 := by rw [eU]; omega
  have hU1 : dvU x l y / 18446744073709551616 < dvY y := by
    refine (Int.ediv_lt_iff_lt_mul (by decide)).2 ?_
    have : (x * 18446744073709551616 + l) * 2 ^ (dvS y).toNat < (y * 18446744073709551616) * 2 ^ (dvS y).toNat := Int.mul_lt_mul_of_pos_right (by omega) hp
    rw [Int.mul_right_comm y] at this
    exact this
  have hV : uOk (dvU x l y % 18446744073709551616) := ⟨by omega, by omega⟩
  have hYu : uOk (dvY y) := ⟨by omega, hY1⟩
  have hUe : (x * 18446744073709551616 + l) * 2 ^ (dvS y).toNat = dvU x l y / 18446744073709551616 * 18446744073709551616 + dvU x l y % 18446744073709551616 / 4294967296 * 4294967296 + dvU x l y % 18446744073709551616 % 4294967296 := by
    show dvU x l y = _
    omega
  simp only [ew, ew2, em, em1, em2, eY, Int.fdiv_eq_ediv_of_nonneg _ (show (0 : Int) ≤ 4294967296 by decide), Int.fdiv_eq_ediv_of_nonneg _ (Int.le_of_lt hp2), Int.fdiv_eq_ediv_of_nonneg _ (Int.le_of_lt hp), and_mask hYu, ex, eor, ← eU, ← eV, and_mask hV]
  generalize dvU x l y / 18446744073709551616 = u at *
  generalize dvU x l y % 18446744073709551616 = v at *
  have hV0 := hV.1
  have hV1 := hV.2
  have h1 : DvOk u (v / 4294967296) (dvY y) := ⟨hY0, hY1, hU0, hU1, by omega, by omega⟩
  have r1 := dvR_ok h1
  have h2 : DvOk (dvR u (v / 4294967296) (dvY y)) (v % 4294967296) (dvY y) := ⟨hY0, hY1, r1.1, r1.2.1, by omega, by omega⟩
  have r2 := dvR_ok h2
  have W := dv_whole hp (show dvY y = y * 2 ^ (dvS y).toNat from rfl) hy0 h1 ⟨by omega, by omega⟩ hUe
  have q1a := dvQ_0 h1
  have q1b := dvQ_32 h1
  have q0a := dvQ_0 h2
  have q0b := dvQ_32 h2
  have ha : dvY y / 4294967296 ≠ 0 := by omega
  have f1 := dv_first h1
  have f2 := dv_first h2
  have e21 : IntKind.u64.wrap (IntKind.u64.wrap (IntKind.u64.wrap (u * 4294967296) + v / 4294967296) - IntKind.u64.wrap (dvQ u (v / 4294967296) (dvY y) * dvY y)) = dvR u (v / 4294967296) (dvY y) := by
    have := r1.2.2
    generalize dvQ u (v / 4294967296) (dvY y) * dvY y = m at *
    rw [wrapU, wrapU, wrapU, wrapU]; omega
  refine ⟨hs0, by decide, hs0, by omega, hs0, by decide, ha, ⟨⟨(u / (dvY y / 4294967296), u % (dvY y / 4294967296)), ⟨by rw [f1.1, f1.2]⟩, ⟨rfl⟩, dv_start h1, trivial⟩, fun p hp => ⟨fun c => ⟨fun d => ?_, fun d => ?_⟩, fun c => ⟨fun e => ⟨fun d => ?_, fun d => ?_⟩, fun e => ?_⟩⟩⟩, fun _ _ _ => ⟨ha, ?_⟩⟩
  · have c := of_decide_eq_true c
    have d := of_decide_eq_true d
    rw [dv_w2 h1 hp] at d
    exact ⟨(), ⟨by rw [(dv_w1 h1 hp (.inl c)).1, dv_end h1 hp (.inl c) d]⟩, ⟨rfl⟩, trivial, trivial⟩
  · have c := of_decide_eq_true c
    have d := of_decide_eq_false d
    rw [dv_w2 h1 hp] at d
    have w1 := dv_w1 h1 hp (.inl c)
    refine ⟨(p.1 - 1, p.2 + dvY y / 4294967296), ⟨by rw [w1.1, dv_w2 h1 hp]⟩, ⟨rfl⟩, dv_next h1 hp (.inl c) (by omega), ?_⟩
    show (p.1 - 1).toNat < p.1.toNat
    omega
  · have c := of_decide_eq_false c
    have e := of_decide_eq_true e
    have d := of_decide_eq_true d
    have cm := dv_cmp (n := (v / 4294967296)) (y := dvY y) (dv_q h1 hp).1 (by omega) hp.r0 hp.r1 h1.n0 h1.n1
    rw [cm.1, cm.2] at e
    rw [dv_w2 h1 hp] at d
    exact ⟨(), ⟨by rw [(dv_w1 h1 hp (.inr e)).1, dv_end h1 hp (.inr e) d]⟩, ⟨rfl⟩, trivial, trivial⟩
  · have c := of_decide_eq_false c
    have e := of_decide_eq_true e
    have d := of_decide_eq_false d
    have cm := dv_cmp (n := (v / 4294967296)) (y := dvY y) (dv_q h1 hp).1 (by omega) hp.r0 hp.r1 h1.n0 h1.n1
    rw [cm.1, cm.2] at e
    rw [dv_w2 h1 hp] at d
    have w1 := dv_w1 h1 hp (.inr e)
    refine ⟨(p.1 - 1, p.2 + dvY y / 4294967296), ⟨by rw [w1.1, dv_w2 h1 hp]⟩, ⟨rfl⟩, dv_next h1 hp (.inr e) (by omega), ?_⟩
    show (p.1 - 1).toNat < p.1.toNat
    omega
  · have c := of_decide_eq_false c
    have e := of_decide_eq_false e
    have cm := dv_cmp (n := (v / 4294967296)) (y := dvY y) (dv_q h1 hp).1 (by omega) hp.r0 hp.r1 h1.n0 h1.n1
    rw [cm.1, cm.2] at e
    exact ⟨(), ⟨by rw [dv_done h1 hp.eq hp.lo (by omega)]⟩, ⟨rfl⟩, trivial, trivial⟩
  rw [e21]
  refine ⟨⟨⟨((dvR u (v / 4294967296) (dvY y)) / (dvY y / 4294967296), (dvR u (v / 4294967296) (dvY y)) % (dvY y / 4294967296)), ⟨by rw [f2.1, f2.2]⟩, ⟨rfl⟩, dv_start h2, trivial⟩, fun p hp => ⟨fun c => ⟨fun d => ?_, fun d => ?_⟩, fun c => ⟨fun e => ⟨fun d => ?_, fun d => ?_⟩, fun e => ?_⟩⟩⟩, fun _ _ _ => ⟨hs0, retIs_iff.2 ?_⟩⟩
  · have c := of_decide_eq_true c
    have d := of_decide_eq_true d
    rw [dv_w2 h2 hp] at d
    exact ⟨(), ⟨by rw [(dv_w1 h2 hp (.inl c)).1, dv_end h2 hp (.inl c) d]⟩, ⟨rfl⟩, trivial, trivial⟩
  · have c := of_decide_eq_true c
    have d := of_decide_eq_false d
    rw [dv_w2 h2 hp] at d
    have w1 := dv_w1 h2 hp (.inl c)
    refine ⟨(p.1 - 1, p.2 + dvY y / 4294967296), ⟨by rw [w1.1, dv_w2 h2 hp]⟩, ⟨rfl⟩, dv_next h2 hp (.inl c) (by omega), ?_⟩
    show (p.1 - 1).toNat < p.1.toNat
    omega
  · have c := of_decide_eq_false c
    have e := of_decide_eq_true e
    have d := of_decide_eq_true d
    have cm := dv_cmp (n := (v % 4294967296)) (y := dvY y) (dv_q h2 hp).1 (by omega) hp.r0 hp.r1 h2.n0 h2.n1
    rw [cm.1, cm.2] at e
    rw [dv_w2 h2 hp] at d
    exact ⟨(), ⟨by rw [(dv_w1 h2 hp (.inr e)).1, dv_end h2 hp (.inr e) d]⟩, ⟨rfl⟩, trivial, trivial⟩
  · have c := of_decide_eq_false c
    have e := of_decide_eq_true e
    have d := of_decide_eq_false d
    have cm := dv_cmp (n := (v % 4294967296)) (y := dvY y) (dv_q h2 hp).1 (by omega) hp.r0 hp.r1 h2.n0 h2.n1
    rw [cm.1, cm.2] at e
    rw [dv_w2 h2 hp] at d
    have w1 := dv_w1 h2 hp (.inr e)
    refine ⟨(p.1 - 1, p.2 + dvY y / 4294967296), ⟨by rw [w1.1, dv_w2 h2 hp]⟩, ⟨rfl⟩, dv_next h2 hp (.inr e) (by omega), ?_⟩
    show (p.1 - 1).toNat < p.1.toNat
    omega
  · have c := of_decide_eq_false c
    have e := of_decide_eq_false e
    have cm := dv_cmp (n := (v % 4294967296)) (y := dvY y) (dv_q h2 hp).1 (by omega) hp.r0 hp.r1 h2.n0 h2.n1
    rw [cm.1, cm.2] at e
    exact ⟨(), ⟨by rw [dv_done h2 hp.eq hp.lo (by omega)]⟩, ⟨rfl⟩, trivial, trivial⟩
  have e0 : IntKind.u64.wrap (IntKind.u64.wrap (IntKind.u64.wrap (dvR u (v / 4294967296) (dvY y) * 4294967296) + v % 4294967296) - IntKind.u64.wrap (dvQ (dvR u (v / 4294967296) (dvY y)) (v % 4294967296) (dvY y) * dvY y)) = dvR (dvR u (v / 4294967296) (dvY y)) (v % 4294967296) (dvY y) := by
    have := r2.2.2
    generalize dvQ (dvR u (v / 4294967296) (dvY y)) (v % 4294967296) (dvY y) * dvY y = m at *
    rw [wrapU, wrapU, wrapU, wrapU]; omega
  have eq : IntKind.u64.wrap (IntKind.u64.wrap (dvQ u (v / 4294967296) (dvY y) * 4294967296) + dvQ (dvR u (v / 4294967296) (dvY y)) (v % 4294967296) (dvY y)) = dvQ u (v / 4294967296) (dvY y) * 4294967296 + dvQ (dvR u (v / 4294967296) (dvY y)) (v % 4294967296) (dvY y) := by
    rw [wrapU, wrapU]; omega
  rw [e0, eq, W.1, W.2]
theorem o57 : SpecOk PA GA 43 s57 := spec_of (X := XA) (m := []) mixedA (tbl_cons o59 tbl_nil) itbl_nil fun args r h => by
  unfold s57 at h
  split at h
  case h_2 => cases h
  rename_i x l y
  split at h
  case isFalse => cases h
  rename_i hc
  injection h with h; subst h
  exact ⟨_, p57 x l y hc.1 hc.2.1 hc.2.2.1 hc.2.2.2⟩
end Go.Abs

namespace Go.Abs
open Go.Proofs Go.Proofs.K17 Go.Proofs.D17 Go.RowKit
theorem agg51 : aggA PA 42 = some true := by kernel_rfl
theorem size51 : sizeA PA 42 = some 6 := by kernel_rfl
theorem len_ces (l : List CeI) : (cesL l).length = l.length := List.length_map ..
theorem take_ce {l : List CeI} {i : Nat} (h : i < l.length) : takeAt PA 42 (cesL l) i 0 = some (.agg (ceC l[i])) := by
  unfold takeAt
  rw [show (cesL l)[i]? = some (ceA l[i]) by unfold cesL; rw [List.getElem?_map, List.getElem?_eq_getElem h]; rfl]
  simp only [agg51, size51, takeA]
  rfl
/-- numbers of 128 bits come round -/
theorem w64_mod (q : Int) : (wrap64 q - q) % 18446744073709551616 = 0 := by unfold wrap64; omega
theorem w64_congr {x y : Int} (h : (x - y) % 18446744073709551616 = 0) : wrap64 x = wrap64 y := by unfold wrap64; omega
theorem sg_mod (x : Int) : (sg x - x) % 340282366920938463463374607431768211456 = 0 := by
  have h1 := w64_mod (x / 18446744073709551616)
  unfold sg wv whi wlo
  generalize wrap64 (x / 18446744073709551616) = q at *
  omega
theorem whi_congr {x y : Int} (h : (x - y) % 340282366920938463463374607431768211456 = 0) : whi x = whi y := by
  unfold whi
  exact w64_congr (by omega)
theorem wlo_congr {x y : Int} (h : (x - y) % 340282366920938463463374607431768211456 = 0) : wlo x = wlo y := by unfold wlo; omega
theorem wideA_congr {x y : Int} (h : (x - y) % 340282366920938463463374607431768211456 = 0) : wideA x = wideA y := by
  rw [wideA_st, wideA_st, whi_congr h, wlo_congr h]
theorem sg_congr {x y : Int} (h : (x - y) % 340282366920938463463374607431768211456 = 0) : sg x = sg y := by unfold sg; rw [whi_congr h, wlo_congr h]
theorem wv_sg (x : Int) : wv (whi x) (wlo x) = sg x := rfl
theorem tdivN {a b : Int} (h : 0 ≤ a) : a.tdiv b = a / b := Int.tdiv_eq_ediv_of_nonneg h
theorem iwN {x : Int} (h : iOk x) : IntKind.i64.wrap x = x := by
  rw [iw]; unfold wrap64; unfold iOk at h; omega
/-- weights -/
theorem weight_pre {h a : Int} (h1 : 1 ≤ h) (h2 : h ≤ 1073741824) (_h3 : 0 ≤ a) : 0 ≤ (2 * h - a % h) * 2147483648 / h ∧ (2 * h - a % h) * 2147483648 / h ≤ 4294967296 := by
  have r0 := Int.emod_nonneg a (show h ≠ 0 by omega)
  have r1 := Int.emod_lt_of_pos a (show 0 < h by omega)
  refine ⟨Int.ediv_nonneg (by omega) (by omega), ?_⟩
  have : (2 * h - a % h) * 2147483648 / h < 4294967297 := (Int.ediv_lt_iff_lt_mul (by omega)).2 (by omega)
  omega
theorem weight_ok (h a : Int) : 0 ≤ weightP h a ∧ weightP h a ≤ 4294967296 := by
  unfold weightP
  split
  · omega
  · rename_i hc
    have hc' : 1 ≤ h ∧ h ≤ 1073741824 ∧ 0 ≤ a := by omega
    obtain ⟨p0, p1⟩ := weight_pre hc'.1 hc'.2.1 hc'.2.2
    have hp : (0 : Int) < 2 ^ (a / h).toNat := by
      have : ((2 ^ (a / h).toNat : Nat) : Int) = 2 ^ (a / h).toNat := by rw [Int.natCast_pow]; rfl
      rw [← this]; have := Nat.two_pow_pos (a / h).toNat; omega
    exact ⟨Int.ediv_nonneg p0 (Int.le_of_lt hp), Int.le_trans (Int.ediv_le_self _ p0) p1⟩
theorem weight_steps {h a : Int} (h1 : 1 ≤ h) (h2 : h ≤ 1073741824) (h3 : 0 ≤ a) (h4 : iOk a) :
    IntKind.i64.wrap (a.tdiv h) = a / h ∧ IntKind.i64.wrap ((IntKind.i64.wrap (IntKind.i64.wrap (IntKind.i64.wrap (2 * h) - a.tmod h) * 2147483648)).tdiv h) = (2 * h - a % h) * 2147483648 / h := by
  have r0 := Int.emod_nonneg a (show h ≠ 0 by omega)
  have r1 := Int.emod_lt_of_pos a (show 0 < h by omega)
  have p := weight_pre h1 h2 h3
  have q0 : 0 ≤ a / h := Int.ediv_nonneg h3 (by omega)
  have q1 : a / h ≤ a := Int.ediv_le_self _ h3
  unfold iOk at h4
  refine ⟨by rw [tdivN h3, iwN ⟨by omega, by omega⟩], ?_⟩
  rw [Int.tmod_eq_emod_of_nonneg h3, iwN (x := 2 * h) ⟨by omega, by omega⟩, iwN (x := 2 * h - a % h) ⟨by omega, by omega⟩, iwN (x := (2 * h - a % h) * 2147483648) ⟨by omega, by omega⟩, tdivN (by omega), iwN ⟨by omega, by omega⟩]
theorem weight0 {h a : Int} (hc : h < 1 ∨ 1073741824 < h ∨ a < 0 ∨ 32 ≤ a / h) : weightP h a = 0 := by unfold weightP; rw [if_pos hc]
theorem weight1 {h a : Int} (h1 : 1 ≤ h) (h2 : h ≤ 1073741824) (h3 : 0 ≤ a) (h4 : a / h < 32) : weightP h a = (2 * h - a % h) * 2147483648 / h / 2 ^ (a / h).toNat := by unfold weightP; rw [if_neg (by omega)]
theorem p8 (h a : Int) (ha : iOk a) : PureOk PA GA XN (tbl []) (itbl []) nAn [] 18 [.int .i64 h, .int .i64 a] (.int .i64 (weightP h a), []) := by
  constructor
  rw [w8]
  refine ⟨fun c => retIs_iff.2 ?_, fun c => ⟨fun d => retIs_iff.2 ?_, fun d => ⟨fun e => retIs_iff.2 ?_, fun e => ?_⟩⟩⟩
  · have c := of_decide_eq_true c
    rw [weight0 (.inl c)]
  · have d := of_decide_eq_true d
    rw [weight0 (.inr (.inl d))]
  · have e := of_decide_eq_true e
    rw [weight0 (.inr (.inr (.inl e)))]
  have c := of_decide_eq_false c
  have d := of_decide_eq_false d
  have e := of_decide_eq_false e
  have W := weight_steps (h := h) (a := a) (by omega) (by omega) (by omega) ha
  rw [W.1, W.2]
  have q0 : 0 ≤ a / h := Int.ediv_nonneg (by omega) (by omega)
  refine ⟨by omega, fun g => retIs_iff.2 ?_, fun g => ⟨by omega, by decide, by omega, by omega, q0, retIs_iff.2 ?_⟩⟩
  · have g := of_decide_eq_true g
    rw [weight0 (.inr (.inr (.inr g)))]
  · have g := of_decide_eq_false g
    rw [weight1 (by omega) (by omega) (by omega) (by omega), show min (a / h).toNat 64 = (a / h).toNat by omega, Int.fdiv_eq_ediv_of_nonneg]
    have : ((2 ^ (a / h).toNat : Nat) : Int) = 2 ^ (a / h).toNat := by rw [Int.natCast_pow]; rfl
    rw [← this]; exact Int.natCast_nonneg _
theorem p50 (t e : Int) : PureOk PA GA XN (tbl []) (itbl []) nAn [] 107 [.int .i64 t, .int .i64 e] (.int .i64 (ageP t e), []) := by
  constructor
  rw [w50, iw]
  refine ⟨fun c => ⟨fun d => retIs_iff.2 ?_, fun d => retIs_iff.2 ?_⟩, fun c => retIs_iff.2 ?_⟩
  · have c := of_decide_eq_true c
    have d := of_decide_eq_true d
    unfold ageP; rw [if_pos ⟨c, d⟩]
  · have d := of_decide_eq_false d
    unfold ageP; rw [if_neg (fun h => d h.2)]
  · have c := of_decide_eq_false c
    unfold ageP; rw [if_neg (fun h => c h.1)]
theorem age_ok (t e : Int) : iOk (ageP t e) := by
  unfold ageP iOk
  split
  · have := w64_range (t - e); omega
  · omega
theorem p51 (kind h l d : Int) (hw : wOk h l) (hd : iOk d) : PureOk PA GA XN (tbl [(14, s55)]) (itbl []) nAn [] 108 [.int .i64 kind, .agg [.int .i64 h, .int .u64 l], .int .i64 d] (numP kind (wv h l) d, []) := by
  constructor
  rw [w51]
  refine ⟨_, _, callIs_iff.2 (by rw [tb_hit]; simp only [s55]; rw [if_pos ⟨hw, hd⟩]), fun b => ⟨fun c => retIs_iff.2 ?_, fun c => retIs_iff.2 ?_⟩, fun b => retIs_iff.2 ?_⟩
  · unfold numP; rw [if_pos b, if_neg (by simpa using c)]
  · have c : kind = 2 := by simpa using c
    subst c
    unfold numP; rw [if_pos b, if_pos rfl]
  · unfold numP; rw [b]; rfl
theorem o8 : SpecOk PA GA 18 s8 := spec_of (X := XN) (m := []) mixedA tbl_nil itbl_nil fun args r h => by
  unfold s8 at h
  split at h
  case h_2 => cases h
  split at h
  case isFalse => cases h
  rename_i hc
  injection h with h; subst h
  exact ⟨_, p8 _ _ hc.2⟩
theorem o50 : SpecOk PA GA 107 s50 := spec_of (X := XN) (m := []) mixedA tbl_nil itbl_nil fun args r h => by
  unfold s50 at h
  split at h
  case h_2 => cases h
  injection h with h; subst h
  exact ⟨_, p50 _ _⟩
theorem o51 : SpecOk PA GA 108 s51 := spec_of (X := XN) (m := []) mixedA (tbl_cons (o55 o57) tbl_nil) itbl_nil fun args r h => by
  unfold s51 at h
  split at h
  case h_2 => cases h
  split at h
  case isFalse => cases h
  rename_i hc
  injection h with h; subst h
  exact ⟨_, p51 _ _ _ _ hc.1 hc.2⟩
end Go.Abs

namespace Go.Abs
open Go.Proofs Go.Proofs.K17 Go.Proofs.D17 Go.RowKit
theorem p43 (op : List UInt8) (param kind t n : Int) (l : List CeI) : PureOk PA GA XN (tbl []) (itbl []) nAn [] 103 [.agg [], .agg (qC op param kind t n l)] (valP .cnt op param kind t n l, []) := by
  constructor
  rw [w43]
  exact retIs_iff.2 rfl
theorem sumP_succ {op : List UInt8} {param t : Int} {l : List CeI} {i : Nat} (h : i < l.length) : sumP op param t (l.take (i + 1)) = sumP op param t (l.take i) + partP op param t l[i] := by
  unfold sumP
  rw [List.take_succ_eq_append_getElem h, List.foldl_append]; rfl
theorem add_sg {x y : Int} : wideA (sg x + y) = .agg [.int .i64 (whi (x + y)), .int .u64 (wlo (x + y))] := by
  rw [← wideA_st]
  exact wideA_congr (by have := sg_mod x; omega)
theorem add_sg2 {x y : Int} : wideA (sg x + sg y) = .agg [.int .i64 (whi (x + y)), .int .u64 (wlo (x + y))] := by
  rw [← wideA_st]
  exact wideA_congr (by have := sg_mod x; have := sg_mod y; omega)
theorem sgm (x y : Int) : (sg x * y - x * y) % 340282366920938463463374607431768211456 = 0 := by
  have h := sg_mod x
  rw [← Int.sub_mul]
  obtain ⟨k, hk⟩ := Int.dvd_of_emod_eq_zero h
  rw [hk, Int.mul_assoc, Int.mul_emod_right]
abbrev T46 : List (FuncId × Spec) := [(107, s50), (18, s8), (45, s49), (16, s47), (108, s51)]
theorem t8 {h a : Int} (h1 : iOk h) (h2 : iOk a) : tbl T46 18 [.int .i64 h, .int .i64 a] = some (.int .i64 (weightP h a), []) := by
  rw [tb_miss (by decide), tb_hit]; simp only [s8]; rw [if_pos ⟨h1, h2⟩]
theorem t49 {h l n : Int} (h1 : wOk h l) (h2 : iOk n) : tbl T46 45 [.agg [.int .i64 h, .int .u64 l], .int .i64 n] = some (.agg [.int .i64 (whi (wv h l * n)), .int .u64 (wlo (wv h l * n))], []) := by
  rw [tb_miss (by decide), tb_miss (by decide), tb_hit]; simp only [s49]; rw [if_pos ⟨h1, h2⟩, wideA_st]
theorem t47 {h l h' l' : Int} (h1 : wOk h l) (h2 : wOk h' l') : tbl T46 16 [.agg [.int .i64 h, .int .u64 l], .agg [.int .i64 h', .int .u64 l']] = some (wideA (wv h l + wv h' l'), []) := by
  rw [tb_miss (by decide), tb_miss (by decide), tb_miss (by decide), tb_hit]; simp only [s47, sW2]; rw [if_pos ⟨h1, h2⟩]
theorem t51 {k h l d : Int} (h1 : wOk h l) (h2 : iOk d) : tbl T46 108 [.int .i64 k, .agg [.int .i64 h, .int .u64 l], .int .i64 d] = some (numP k (wv h l) d, []) := by
  rw [tb_miss (by decide), tb_miss (by decide), tb_miss (by decide), tb_miss (by decide), tb_hit]; simp only [s51]; rw [if_pos ⟨h1, h2⟩]
theorem numP_form (k x d : Int) : ∃ a n s, numP k x d = .agg [.int .i64 a, .int .i64 n, .str s] := by
  unfold numP; split <;> exact ⟨_, _, _, rfl⟩
theorem whi0 : whi 0 = 0 := by unfold whi wrap64; decide
theorem p46 (op : List UInt8) (param kind t n : Int) (l : List CeI) (hl : cesOk l) (hp : iOk param) (hn : iOk n) : PureOk PA GA XN (tbl [(107, s50), (18, s8), (45, s49), (16, s47), (108, s51)]) (itbl []) (a46 op param kind t n l) [] 106 [.agg [], .agg (qC op param kind t n l)] (valP .sum op param kind t n l, []) := by
  constructor
  rw [w46]
  refine ⟨⟨0, ⟨by rw [len_ces]; rfl⟩, ⟨by rw [List.take_zero, show sumP op param t [] = 0 from rfl, whi0, show wlo 0 = 0 from rfl]⟩, Nat.zero_le _, trivial⟩, fun i hi => ⟨fun lt => ?_, fun ge => ?_⟩⟩
  · have lt := of_decide_eq_true lt
    have hil : i < l.length := by omega
    have hlen := hl.1
    have hc := hl.2 _ (List.getElem_mem hil)
    refine ⟨⟨by omega, by rw [len_ces]; omega⟩, _, _, _, _, _, _, by rw [Int.toNat_natCast]; exact take_ce hil, fun d => ?_, fun d => ?_⟩
    · have d : op = bDecay := eq_of_beq d
      have ww := weight_ok param (ageP t l[i].ev)
      refine ⟨_, callIs_iff.2 rfl, _, callIs_iff.2 (t8 hp (age_ok _ _)), _, _, callIs_iff.2 (t49 hc.1 ⟨by omega, by omega⟩), _, _, callIs_iff.2 (by rw [t47 (w_ok _) (w_ok _), wv_sg, wv_sg, add_sg2]), i + 1, ⟨by rw [wrapN (by omega)]⟩, ⟨?_⟩, hil, by omega⟩
      have e : partP op param t l[i] = wv l[i].st.h l[i].st.l * weightP param (ageP t l[i].ev) := by unfold partP; rw [if_pos d]
      rw [sumP_succ hil, e]
    · have d : op ≠ bDecay := fun e => by subst e; exact absurd d (by decide)
      refine ⟨_, _, callIs_iff.2 (by rw [t47 (w_ok _) hc.1, wv_sg, add_sg]), i + 1, ⟨by rw [wrapN (by omega)]⟩, ⟨?_⟩, hil, by omega⟩
      have e : partP op param t l[i] = wv l[i].st.h l[i].st.l := by unfold partP; rw [if_neg d]
      rw [sumP_succ hil, e]
  · have ge := of_decide_eq_false ge
    have hall : l.take i = l := List.take_of_length_le (by omega)
    rw [hall]
    have h1 : iOk 1 := by unfold iOk; omega
    have h6 : iOk 1000000 := by unfold iOk; omega
    have h32 : iOk 4294967296 := by unfold iOk; omega
    show _ ∧ _
    refine ⟨fun c => ?_, fun c => ⟨fun k => ⟨_, _, callIs_iff.2 (t49 (w_ok _) h6), fun m => ?_, fun m => ?_⟩, fun k => ⟨fun m => ?_, fun m => ?_⟩⟩⟩
    · have c : op = bSum := eq_of_beq c
      obtain ⟨a, b, s, e⟩ := numP_form kind (sg (sumP op param t l)) 1
      refine ⟨a, b, s, callIs_iff.2 (by rw [t51 (w_ok _) h1, wv_sg, e]), retIs_iff.2 ?_⟩
      rw [← e]; show _ = (addV' op param kind t n l, _); unfold addV'; rw [if_pos c]
    · have c : op ≠ bSum := fun e => by subst e; exact absurd c (by decide)
      have k : kind = 2 := eq_of_beq k
      have m : op = bMean := eq_of_beq m
      obtain ⟨a, b, s, e⟩ := numP_form 3 (sg (sumP op param t l * 1000000)) n
      refine ⟨a, b, s, callIs_iff.2 (by rw [t51 (w_ok _) hn, wv_sg, wv_sg, ← e]; congr 3; exact sg_congr (sgm _ _)), retIs_iff.2 ?_⟩
      rw [← e]; show _ = (addV' op param kind t n l, _); unfold addV'; rw [if_neg c, if_pos m, if_pos k]
    · have c : op ≠ bSum := fun e => by subst e; exact absurd c (by decide)
      have k : kind = 2 := eq_of_beq k
      have m : op ≠ bMean := fun e => by subst e; exact absurd m (by decide)
      obtain ⟨a, b, s, e⟩ := numP_form 3 (sg (sumP op param t l * 1000000)) 4294967296
      refine ⟨a, b, s, callIs_iff.2 (by rw [t51 (w_ok _) h32, wv_sg, wv_sg, ← e]; congr 3; exact sg_congr (sgm _ _)), retIs_iff.2 ?_⟩
      rw [← e]; show _ = (addV' op param kind t n l, _); unfold addV'; rw [if_neg c, if_neg m, if_pos k]
    · have c : op ≠ bSum := fun e => by subst e; exact absurd c (by decide)
      have k : ¬ kind = 2 := fun e => by subst e; exact absurd k (by decide)
      have m : op = bMean := eq_of_beq m
      obtain ⟨a, b, s, e⟩ := numP_form 3 (sg (sumP op param t l)) n
      refine ⟨a, b, s, callIs_iff.2 (by rw [t51 (w_ok _) hn, wv_sg, e]), retIs_iff.2 ?_⟩
      rw [← e]; show _ = (addV' op param kind t n l, _); unfold addV'; rw [if_neg c, if_pos m, if_neg k]
    · have c : op ≠ bSum := fun e => by subst e; exact absurd c (by decide)
      have k : ¬ kind = 2 := fun e => by subst e; exact absurd k (by decide)
      have m : op ≠ bMean := fun e => by subst e; exact absurd m (by decide)
      obtain ⟨a, b, s, e⟩ := numP_form 3 (sg (sumP op param t l)) 4294967296
      refine ⟨a, b, s, callIs_iff.2 (by rw [t51 (w_ok _) h32, wv_sg, e]), retIs_iff.2 ?_⟩
      rw [← e]; show _ = (addV' op param kind t n l, _); unfold addV'; rw [if_neg c, if_neg m, if_neg k]
theorem mrgB_succ {l : List CeI} {i : Nat} (h : i < l.length) : mrgB (l.take (i + 1)) = normB (mrgB (l.take i) ++ l[i].st.bks) := by
  unfold mrgB
  rw [List.take_succ_eq_append_getElem h, List.foldl_append]; rfl
theorem mrgB_ok {l : List CeI} (hl : cesOk l) : ∀ {i : Nat}, i ≤ l.length → WfB (mrgB (l.take i)) ∧ (mrgB (l.take i)).length ≤ i * 100000
  | 0, _ => ⟨nil_wf, Nat.zero_le _⟩
  | i + 1, hi => by
    obtain ⟨h1, h2⟩ := mrgB_ok hl (i := i) (by omega)
    have hil : i < l.length := by omega
    have hc := hl.2 _ (List.getElem_mem hil)
    rw [mrgB_succ hil]
    have hw : WfB (mrgB (l.take i) ++ l[i].st.bks) := fun y hy => by
      rcases List.mem_append.1 hy with h | h
      · exact h1 y h
      · exact hc.2.1 y h
    refine ⟨(norm_ok hw).2.1, Nat.le_trans (normB_len _) ?_⟩
    have := hc.2.2.2.2
    rw [List.length_append]; omega
theorem smp_end (param kind : Int) (l : List CeI) {q : Bks} (hq : q = mrgB l) : ∃ n b, some (AV.tup [AV.int IntKind.i64 ((quantile q param).getD 0), AV.bool (quantile q param).isSome], ([] : List (Nat × TypeId))) = some (AV.tup [AV.int IntKind.i64 n, AV.bool b], []) ∧
    (b = true → ((kind == 2) = true → RetIs (AV.agg [AV.int IntKind.i64 2, AV.int IntKind.i64 n, AV.str []]) [] (smpV param kind l, [])) ∧ ((kind == 2) = false → RetIs (AV.agg [AV.int IntKind.i64 3, AV.int IntKind.i64 n, AV.str []]) [] (smpV param kind l, []))) ∧
    (b = false → RetIs (AV.agg [AV.int IntKind.i64 0, AV.int IntKind.i64 0, AV.str []]) [] (smpV param kind l, [])) := by
  subst hq
  refine ⟨_, _, rfl, fun hb => ⟨fun k => retIs_iff.2 ?_, fun k => retIs_iff.2 ?_⟩, fun hb => retIs_iff.2 ?_⟩
  · have k : kind = 2 := eq_of_beq k
    unfold smpV
    cases hq : quantile (mrgB l) param with
    | none => rw [hq] at hb; cases hb
    | some n => simp only [if_pos k]; rfl
  · have k : ¬ kind = 2 := fun e => by subst e; exact absurd k (by decide)
    unfold smpV
    cases hq : quantile (mrgB l) param with
    | none => rw [hq] at hb; cases hb
    | some n => simp only [if_neg k]; rfl
  · unfold smpV
    cases hq : quantile (mrgB l) param with
    | none => rfl
    | some n => rw [hq] at hb; cases hb
theorem p65 (op : List UInt8) (param kind t n : Int) (l : List CeI) (hl : cesOk l) : PureOk PA GA XN (tbl [(112, s66), (114, s68)]) (itbl []) (a65 op param kind t n l) [] 111 [.agg [], .agg (qC op param kind t n l)] (valP .smp op param kind t n l, []) := by
  constructor
  rw [w65]
  have hlen := hl.1
  refine ⟨fun lt => ?_, fun ge => ?_⟩
  · have lt := of_decide_eq_true lt
    rw [len_ces] at lt
    have h0 : 0 < l.length := by omega
    have hc := hl.2 _ (List.getElem_mem h0)
    refine ⟨⟨by omega, by rw [len_ces]; omega⟩, _, _, _, _, _, _, take_ce h0, bksL (mrgB (l.take 1)), callIs_iff.2 ?_, ⟨(1, l[0]), ⟨by rw [len_ces]; rfl⟩, ⟨rfl⟩, ⟨Nat.le_refl _, h0, List.getElem?_eq_getElem h0⟩, trivial⟩, fun p hp => ⟨fun lt => ?_, fun ge => ?_⟩⟩
    · rw [tb_hit]; simp only [s66, show unL unBk [] = some [] from rfl, show unL unBk (bksL l[0].st.bks) = some l[0].st.bks from unL_map unBk_ok _]
      have e : mrgB (l.take 1) = normB ([] ++ l[0].st.bks) := by rw [mrgB_succ h0]; rfl
      have := hc.2.2.2.2
      rw [if_pos ⟨.inr trivial, .inl trivial, nil_wf, hc.2.1, by rw [List.length_nil]; omega⟩, e]
    · have lt := of_decide_eq_true lt
      have hil : p.1 < l.length := by omega
      have hc := hl.2 _ (List.getElem_mem hil)
      have hm := mrgB_ok hl (i := p.1) (by omega)
      refine ⟨⟨by omega, by rw [len_ces]; omega⟩, _, _, _, _, _, _, by rw [Int.toNat_natCast]; exact take_ce hil, bksL (mrgB (l.take (p.1 + 1))), callIs_iff.2 ?_, (p.1 + 1, p.2), ⟨by rw [wrapN (by omega)]⟩, ⟨rfl⟩, ⟨by omega, hil, hp.2.2⟩, by show _ - (p.1 + 1) < _; omega⟩
      rw [tb_hit]; simp only [s66, show unL unBk (bksL (mrgB (l.take p.1))) = some (mrgB (l.take p.1)) from unL_map unBk_ok _, show unL unBk (bksL l[p.1].st.bks) = some l[p.1].st.bks from unL_map unBk_ok _]
      have := hc.2.2.2.2
      have := hm.2
      rw [if_pos ⟨.inl trivial, .inl trivial, hm.1, hc.2.1, by omega⟩, mrgB_succ hil]
    · have ge := of_decide_eq_false ge
      have hall : l.take p.1 = l := List.take_of_length_le (by omega)
      rw [hall]
      obtain ⟨n, b, e, h⟩ := smp_end param kind l rfl
      refine ⟨n, b, callIs_iff.2 ?_, h⟩
      rw [tb_miss (by decide), tb_hit, ← e]; simp only [s68, show unL unBk (bksL (mrgB l)) = some (mrgB l) from unL_map unBk_ok _]
      have := (mrgB_ok hl (i := l.length) (Nat.le_refl _)).2
      rw [List.take_length] at this
      rw [if_pos ⟨.inl trivial, by omega⟩]
  · have ge := of_decide_eq_false ge
    rw [len_ces] at ge
    obtain ⟨n, b, e, h⟩ := smp_end param kind l (q := []) (by
      have : l = [] := List.length_eq_zero_iff.1 (by omega)
      subst this; rfl)
    exact ⟨n, b, callIs_iff.2 e, h⟩
end Go.Abs

namespace Go.Abs
open Go.Proofs Go.Proofs.K17 Go.Proofs.D17 Go.RowKit
theorem itsOf_succ {l : List CeI} {i : Nat} {c : CeI} (h : l[i]? = some c) : itsOf (l.take (i + 1)) = itsOf (l.take i) ++ c.st.its := by
  obtain ⟨hi, e⟩ := List.getElem?_eq_some_iff.1 h
  unfold itsOf
  rw [List.take_succ_eq_append_getElem hi, List.flatMap_append, e]
  simp
theorem best_step {op : List UInt8} {p : List ItI} {m : List ItI} {j : Nat} (h : j < m.length) {b : Bst} (hb : bestP op (p ++ m.take j) = b) : bestP op (p ++ m.take (j + 1)) = bstep op b m[j] := by
  subst hb
  unfold bestP
  rw [List.take_succ_eq_append_getElem h, ← List.append_assoc, List.foldl_append (l := p ++ m.take j)]; rfl
theorem bstep_0 {op : List UInt8} {b : Bst} {x : ItI} (h : x.c ≤ 0) : bstep op b x = b := by unfold bstep; rw [if_pos h]
theorem bstep_1 {op : List UInt8} {b : Bst} {x : ItI} (h : ¬ x.c ≤ 0) (h2 : b.f = false ∨ op = bLast ∨ (op = bMin ∧ cmpV x.k x.n x.s b.k b.n b.s < 0) ∨ (op = bMax ∧ 0 < cmpV x.k x.n x.s b.k b.n b.s)) : bstep op b x = ⟨x.k, x.n, x.s, true⟩ := by
  unfold bstep; rw [if_neg h, if_pos h2]
theorem bstep_2 {op : List UInt8} {b : Bst} {x : ItI} (h2 : ¬ (b.f = false ∨ op = bLast ∨ (op = bMin ∧ cmpV x.k x.n x.s b.k b.n b.s < 0) ∨ (op = bMax ∧ 0 < cmpV x.k x.n x.s b.k b.n b.s))) : bstep op b x = b := by
  unfold bstep; split
  · rfl
  · first | rfl | rw [if_neg h2]
theorem its_ok {l : List CeI} (h : cesOk l) : ∀ x ∈ itsOf l, itW x := fun x hx => by
  obtain ⟨c, hc, hx⟩ := List.mem_flatMap.1 hx
  exact (h.2 c hc).2.2.1 x hx
theorem its_len_aux : ∀ (l : List CeI), (∀ c ∈ l, c.st.its.length ≤ 100000) → (itsOf l).length ≤ l.length * 100000
  | [], _ => Nat.le_refl _
  | c :: l, h => by
    have h1 := its_len_aux l fun d hd => h d (by simp [hd])
    have h2 := h c (by simp)
    have e : (itsOf (c :: l)).length = c.st.its.length + (itsOf l).length := by unfold itsOf; rw [List.flatMap_cons, List.length_append]
    rw [e, List.length_cons]; omega
theorem its_len {l : List CeI} (h : cesOk l) : (itsOf l).length ≤ 100000000 := by
  have h1 := its_len_aux l fun c hc => (h.2 c hc).2.2.2.1
  have := h.1
  omega
theorem p101 (f : Bool) (op : List UInt8) (param kind t n : Int) (l : List CeI) (hl : cesOk l) : PureOk PA GA XN (tbl [(149, s104), (35, s105)]) (itbl []) (a101 f op param kind t n l) [] 146 [.agg [.bool f], .agg (qC op param kind t n l)] (valP (.keep f) op param kind t n l, []) := by
  constructor
  rw [w101]
  have hlen := hl.1
  refine ⟨fun c => ?_, fun c => ?_⟩
  · have c : op = bDistinct := eq_of_beq c
    refine ⟨(distV (itsOf l) : Nat), callIs_iff.2 ?_, retIs_iff.2 ?_⟩
    · rw [tb_hit]; simp only [s104, show unL unCe (cesL l) = some l from unL_map unCe_ok l]
      rw [if_pos ⟨.inl trivial, its_ok hl, Nat.le_trans (its_len hl) (by omega), by omega⟩]
    · show _ = (keepV op l, _); unfold keepV; rw [if_pos c]
  have hd : op ≠ bDistinct := fun x => by subst x; exact absurd c (by decide)
  refine ⟨⟨(0, ⟨0, 0, [], false⟩), ⟨by rw [len_ces]; rfl⟩, ⟨rfl⟩, ⟨Nat.zero_le _, rfl⟩, trivial⟩, fun x hx => ⟨fun fx => ⟨fun lt => ?_, fun ge => ?_⟩, fun fx => ⟨fun lt => ?_, fun ge => ?_⟩⟩⟩
  · have lt := of_decide_eq_true lt
    have hil : x.1 < l.length := by omega
    have hcl : ∀ c, ∀ {i : Nat}, l[i]? = some c → c.st.its.length ≤ 100000 := fun c i h => (hl.2 c (List.mem_of_getElem? h)).2.2.2.1
    refine ⟨⟨by omega, by rw [len_ces]; omega⟩, _, _, _, _, _, _, by rw [Int.toNat_natCast]; exact take_ce hil, ⟨⟨x.1, l[x.1], 0, x.2⟩, ⟨by rw [len_its, fx]; rfl⟩, ⟨rfl⟩, ⟨List.getElem?_eq_getElem hil, Nat.zero_le _, by rw [List.take_zero, List.append_nil]; exact hx.2⟩, rfl⟩, fun y hy hk => ⟨fun fy => ⟨fun lt2 => ?_, fun ge2 => ?_⟩, fun fy => ⟨fun lt2 => ?_, fun ge2 => ?_⟩⟩⟩
    · have lt2 := of_decide_eq_true lt2
      have hj : y.j < y.c.st.its.length := by omega
      have hjl := hcl y.c hy.1
      refine ⟨⟨by omega, by rw [len_its]; omega⟩, _, _, _, _, _, _, by rw [Int.toNat_natCast]; exact take_it hj, fun c0 => ?_, fun c0 => ⟨_, callIs_iff.2 rfl, fun cl => ?_, fun cl => ⟨fun cm => ⟨fun c9 => ?_, fun c9 => ⟨fun cx => ⟨fun c8 => ?_, fun c8 => ?_⟩, fun cx => ?_⟩⟩, fun cm => ⟨fun cx => ⟨fun c8 => ?_, fun c8 => ?_⟩, fun cx => ?_⟩⟩⟩⟩
      · have c0 := of_decide_eq_true c0
        exact ⟨⟨y.i, y.c, y.j + 1, y.b⟩, ⟨by rw [wrapN (by omega), fy]⟩, ⟨rfl⟩, ⟨hy.1, hj, by rw [best_step hj hy.2.2]; exact bstep_0 c0⟩, hk, by show y.c.st.its.length - (y.j + 1) < y.c.st.its.length - y.j; omega⟩
      · have c0 := of_decide_eq_false c0
        have cl : op = bLast := eq_of_beq cl
        exact ⟨⟨y.i, y.c, y.j + 1, ⟨y.c.st.its[y.j].k, y.c.st.its[y.j].n, y.c.st.its[y.j].s, true⟩⟩, ⟨by rw [wrapN (by omega)]⟩, ⟨rfl⟩, ⟨hy.1, hj, by rw [best_step hj hy.2.2]; exact bstep_1 c0 (.inr (.inl cl))⟩, hk, by show y.c.st.its.length - (y.j + 1) < y.c.st.its.length - y.j; omega⟩
      · have c0 := of_decide_eq_false c0
        have cl : op ≠ bLast := fun x => by subst x; exact absurd cl (by decide)
        have cm : op = bMin := eq_of_beq cm
        have c9 := of_decide_eq_true c9
        exact ⟨⟨y.i, y.c, y.j + 1, ⟨y.c.st.its[y.j].k, y.c.st.its[y.j].n, y.c.st.its[y.j].s, true⟩⟩, ⟨by rw [wrapN (by omega)]⟩, ⟨rfl⟩, ⟨hy.1, hj, by rw [best_step hj hy.2.2]; exact bstep_1 c0 (.inr (.inr (.inl ⟨cm, c9⟩)))⟩, hk, by show y.c.st.its.length - (y.j + 1) < y.c.st.its.length - y.j; omega⟩
      · have c0 := of_decide_eq_false c0
        have cl : op ≠ bLast := fun x => by subst x; exact absurd cl (by decide)
        have cm : op = bMin := eq_of_beq cm
        have c9 := of_decide_eq_false c9
        have cx : op = bMax := eq_of_beq cx
        have c8 := of_decide_eq_true c8
        exact ⟨⟨y.i, y.c, y.j + 1, ⟨y.c.st.its[y.j].k, y.c.st.its[y.j].n, y.c.st.its[y.j].s, true⟩⟩, ⟨by rw [wrapN (by omega)]⟩, ⟨rfl⟩, ⟨hy.1, hj, by rw [best_step hj hy.2.2]; exact bstep_1 c0 (.inr (.inr (.inr ⟨cx, c8⟩)))⟩, hk, by show y.c.st.its.length - (y.j + 1) < y.c.st.its.length - y.j; omega⟩
      · have c0 := of_decide_eq_false c0
        have cl : op ≠ bLast := fun x => by subst x; exact absurd cl (by decide)
        have cm : op = bMin := eq_of_beq cm
        have c9 := of_decide_eq_false c9
        have cx : op = bMax := eq_of_beq cx
        have c8 := of_decide_eq_false c8
        exact ⟨⟨y.i, y.c, y.j + 1, y.b⟩, ⟨by rw [wrapN (by omega), fy]⟩, ⟨rfl⟩, ⟨hy.1, hj, by rw [best_step hj hy.2.2]; exact bstep_2 fun h => h.elim (fun h => by rw [fy] at h; cases h) fun h => h.elim (fun h => cl h) fun h => h.elim (fun h => c9 h.2) fun h => c8 h.2⟩, hk, by show y.c.st.its.length - (y.j + 1) < y.c.st.its.length - y.j; omega⟩
      · have c0 := of_decide_eq_false c0
        have cl : op ≠ bLast := fun x => by subst x; exact absurd cl (by decide)
        have cm : op = bMin := eq_of_beq cm
        have c9 := of_decide_eq_false c9
        have cx : op ≠ bMax := fun x => by subst x; exact absurd cx (by decide)
        exact ⟨⟨y.i, y.c, y.j + 1, y.b⟩, ⟨by rw [wrapN (by omega), fy]⟩, ⟨rfl⟩, ⟨hy.1, hj, by rw [best_step hj hy.2.2]; exact bstep_2 fun h => h.elim (fun h => by rw [fy] at h; cases h) fun h => h.elim (fun h => cl h) fun h => h.elim (fun h => c9 h.2) fun h => cx h.1⟩, hk, by show y.c.st.its.length - (y.j + 1) < y.c.st.its.length - y.j; omega⟩
      · have c0 := of_decide_eq_false c0
        have cl : op ≠ bLast := fun x => by subst x; exact absurd cl (by decide)
        have cm : op ≠ bMin := fun x => by subst x; exact absurd cm (by decide)
        have cx : op = bMax := eq_of_beq cx
        have c8 := of_decide_eq_true c8
        exact ⟨⟨y.i, y.c, y.j + 1, ⟨y.c.st.its[y.j].k, y.c.st.its[y.j].n, y.c.st.its[y.j].s, true⟩⟩, ⟨by rw [wrapN (by omega)]⟩, ⟨rfl⟩, ⟨hy.1, hj, by rw [best_step hj hy.2.2]; exact bstep_1 c0 (.inr (.inr (.inr ⟨cx, c8⟩)))⟩, hk, by show y.c.st.its.length - (y.j + 1) < y.c.st.its.length - y.j; omega⟩
      · have c0 := of_decide_eq_false c0
        have cl : op ≠ bLast := fun x => by subst x; exact absurd cl (by decide)
        have cm : op ≠ bMin := fun x => by subst x; exact absurd cm (by decide)
        have cx : op = bMax := eq_of_beq cx
        have c8 := of_decide_eq_false c8
        exact ⟨⟨y.i, y.c, y.j + 1, y.b⟩, ⟨by rw [wrapN (by omega), fy]⟩, ⟨rfl⟩, ⟨hy.1, hj, by rw [best_step hj hy.2.2]; exact bstep_2 fun h => h.elim (fun h => by rw [fy] at h; cases h) fun h => h.elim (fun h => cl h) fun h => h.elim (fun h => cm h.1) fun h => c8 h.2⟩, hk, by show y.c.st.its.length - (y.j + 1) < y.c.st.its.length - y.j; omega⟩
      · have c0 := of_decide_eq_false c0
        have cl : op ≠ bLast := fun x => by subst x; exact absurd cl (by decide)
        have cm : op ≠ bMin := fun x => by subst x; exact absurd cm (by decide)
        have cx : op ≠ bMax := fun x => by subst x; exact absurd cx (by decide)
        exact ⟨⟨y.i, y.c, y.j + 1, y.b⟩, ⟨by rw [wrapN (by omega), fy]⟩, ⟨rfl⟩, ⟨hy.1, hj, by rw [best_step hj hy.2.2]; exact bstep_2 fun h => h.elim (fun h => by rw [fy] at h; cases h) fun h => h.elim (fun h => cl h) fun h => h.elim (fun h => cm h.1) fun h => cx h.1⟩, hk, by show y.c.st.its.length - (y.j + 1) < y.c.st.its.length - y.j; omega⟩
    · have ge2 := of_decide_eq_false ge2
      obtain ⟨hyi, hyj, hyb⟩ := hy
      have e : x.1 = y.i := by
        have := congrArg (fun o : Option AV => match o with | some (.int _ z) => z | _ => 0) hk
        have this : (x.1 : Int) = y.i := this
        omega
      have hin : x.1 < l.length := hil
      refine ⟨(y.i + 1, y.b), ⟨by rw [wrapN (by omega), fy]⟩, ⟨rfl⟩, ⟨by show y.i + 1 ≤ _; omega, ?_⟩, by show l.length - (y.i + 1) < l.length - x.1; omega⟩
      show bestP op (itsOf (l.take (y.i + 1))) = y.b
      rw [itsOf_succ hyi, ← hyb, show y.c.st.its.take y.j = y.c.st.its from List.take_of_length_le (by omega)]
    · have lt2 := of_decide_eq_true lt2
      have hj : y.j < y.c.st.its.length := by omega
      have hjl := hcl y.c hy.1
      refine ⟨⟨by omega, by rw [len_its]; omega⟩, _, _, _, _, _, _, by rw [Int.toNat_natCast]; exact take_it hj, fun c0 => ?_, fun c0 => ⟨_, callIs_iff.2 rfl, ?_⟩⟩
      · have c0 := of_decide_eq_true c0
        exact ⟨⟨y.i, y.c, y.j + 1, y.b⟩, ⟨by rw [wrapN (by omega), fy]⟩, ⟨rfl⟩, ⟨hy.1, hj, by rw [best_step hj hy.2.2]; exact bstep_0 c0⟩, hk, by show y.c.st.its.length - (y.j + 1) < y.c.st.its.length - y.j; omega⟩
      · have c0 := of_decide_eq_false c0
        exact ⟨⟨y.i, y.c, y.j + 1, ⟨y.c.st.its[y.j].k, y.c.st.its[y.j].n, y.c.st.its[y.j].s, true⟩⟩, ⟨by rw [wrapN (by omega)]⟩, ⟨rfl⟩, ⟨hy.1, hj, by rw [best_step hj hy.2.2]; exact bstep_1 c0 (.inl fy)⟩, hk, by show y.c.st.its.length - (y.j + 1) < y.c.st.its.length - y.j; omega⟩
    · have ge2 := of_decide_eq_false ge2
      obtain ⟨hyi, hyj, hyb⟩ := hy
      have e : x.1 = y.i := by
        have := congrArg (fun o : Option AV => match o with | some (.int _ z) => z | _ => 0) hk
        have this : (x.1 : Int) = y.i := this
        omega
      have hin : x.1 < l.length := hil
      refine ⟨(y.i + 1, y.b), ⟨by rw [wrapN (by omega), fy]⟩, ⟨rfl⟩, ⟨by show y.i + 1 ≤ _; omega, ?_⟩, by show l.length - (y.i + 1) < l.length - x.1; omega⟩
      show bestP op (itsOf (l.take (y.i + 1))) = y.b
      rw [itsOf_succ hyi, ← hyb, show y.c.st.its.take y.j = y.c.st.its from List.take_of_length_le (by omega)]
  · have ge := of_decide_eq_false ge
    refine retIs_iff.2 ?_
    have hall : l.take x.1 = l := List.take_of_length_le (by omega)
    show _ = (keepV op l, _); unfold keepV; rw [if_neg hd, ← hx.2, hall]
  · have lt := of_decide_eq_true lt
    have hil : x.1 < l.length := by omega
    have hcl : ∀ c, ∀ {i : Nat}, l[i]? = some c → c.st.its.length ≤ 100000 := fun c i h => (hl.2 c (List.mem_of_getElem? h)).2.2.2.1
    refine ⟨⟨by omega, by rw [len_ces]; omega⟩, _, _, _, _, _, _, by rw [Int.toNat_natCast]; exact take_ce hil, ⟨⟨x.1, l[x.1], 0, x.2⟩, ⟨by rw [len_its, fx]; rfl⟩, ⟨rfl⟩, ⟨List.getElem?_eq_getElem hil, Nat.zero_le _, by rw [List.take_zero, List.append_nil]; exact hx.2⟩, rfl⟩, fun y hy hk => ⟨fun fy => ⟨fun lt2 => ?_, fun ge2 => ?_⟩, fun fy => ⟨fun lt2 => ?_, fun ge2 => ?_⟩⟩⟩
    · have lt2 := of_decide_eq_true lt2
      have hj : y.j < y.c.st.its.length := by omega
      have hjl := hcl y.c hy.1
      refine ⟨⟨by omega, by rw [len_its]; omega⟩, _, _, _, _, _, _, by rw [Int.toNat_natCast]; exact take_it hj, fun c0 => ?_, fun c0 => ⟨_, callIs_iff.2 rfl, fun cl => ?_, fun cl => ⟨fun cm => ⟨fun c9 => ?_, fun c9 => ⟨fun cx => ⟨fun c8 => ?_, fun c8 => ?_⟩, fun cx => ?_⟩⟩, fun cm => ⟨fun cx => ⟨fun c8 => ?_, fun c8 => ?_⟩, fun cx => ?_⟩⟩⟩⟩
      · have c0 := of_decide_eq_true c0
        exact ⟨⟨y.i, y.c, y.j + 1, y.b⟩, ⟨by rw [wrapN (by omega), fy]⟩, ⟨rfl⟩, ⟨hy.1, hj, by rw [best_step hj hy.2.2]; exact bstep_0 c0⟩, hk, by show y.c.st.its.length - (y.j + 1) < y.c.st.its.length - y.j; omega⟩
      · have c0 := of_decide_eq_false c0
        have cl : op = bLast := eq_of_beq cl
        exact ⟨⟨y.i, y.c, y.j + 1, ⟨y.c.st.its[y.j].k, y.c.st.its[y.j].n, y.c.st.its[y.j].s, true⟩⟩, ⟨by rw [wrapN (by omega)]⟩, ⟨rfl⟩, ⟨hy.1, hj, by rw [best_step hj hy.2.2]; exact bstep_1 c0 (.inr (.inl cl))⟩, hk, by show y.c.st.its.length - (y.j + 1) < y.c.st.its.length - y.j; omega⟩
      · have c0 := of_decide_eq_false c0
        have cl : op ≠ bLast := fun x => by subst x; exact absurd cl (by decide)
        have cm : op = bMin := eq_of_beq cm
        have c9 := of_decide_eq_true c9
        exact ⟨⟨y.i, y.c, y.j + 1, ⟨y.c.st.its[y.j].k, y.c.st.its[y.j].n, y.c.st.its[y.j].s, true⟩⟩, ⟨by rw [wrapN (by omega)]⟩, ⟨rfl⟩, ⟨hy.1, hj, by rw [best_step hj hy.2.2]; exact bstep_1 c0 (.inr (.inr (.inl ⟨cm, c9⟩)))⟩, hk, by show y.c.st.its.length - (y.j + 1) < y.c.st.its.length - y.j; omega⟩
      · have c0 := of_decide_eq_false c0
        have cl : op ≠ bLast := fun x => by subst x; exact absurd cl (by decide)
        have cm : op = bMin := eq_of_beq cm
        have c9 := of_decide_eq_false c9
        have cx : op = bMax := eq_of_beq cx
        have c8 := of_decide_eq_true c8
        exact ⟨⟨y.i, y.c, y.j + 1, ⟨y.c.st.its[y.j].k, y.c.st.its[y.j].n, y.c.st.its[y.j].s, true⟩⟩, ⟨by rw [wrapN (by omega)]⟩, ⟨rfl⟩, ⟨hy.1, hj, by rw [best_step hj hy.2.2]; exact bstep_1 c0 (.inr (.inr (.inr ⟨cx, c8⟩)))⟩, hk, by show y.c.st.its.length - (y.j + 1) < y.c.st.its.length - y.j; omega⟩
      · have c0 := of_decide_eq_false c0
        have cl : op ≠ bLast := fun x => by subst x; exact absurd cl (by decide)
        have cm : op = bMin := eq_of_beq cm
        have c9 := of_decide_eq_false c9
        have cx : op = bMax := eq_of_beq cx
        have c8 := of_decide_eq_false c8
        exact ⟨⟨y.i, y.c, y.j + 1, y.b⟩, ⟨by rw [wrapN (by omega), fy]⟩, ⟨rfl⟩, ⟨hy.1, hj, by rw [best_step hj hy.2.2]; exact bstep_2 fun h => h.elim (fun h => by rw [fy] at h; cases h) fun h => h.elim (fun h => cl h) fun h => h.elim (fun h => c9 h.2) fun h => c8 h.2⟩, hk, by show y.c.st.its.length - (y.j + 1) < y.c.st.its.length - y.j; omega⟩
      · have c0 := of_decide_eq_false c0
        have cl : op ≠ bLast := fun x => by subst x; exact absurd cl (by decide)
        have cm : op = bMin := eq_of_beq cm
        have c9 := of_decide_eq_false c9
        have cx : op ≠ bMax := fun x => by subst x; exact absurd cx (by decide)
        exact ⟨⟨y.i, y.c, y.j + 1, y.b⟩, ⟨by rw [wrapN (by omega), fy]⟩, ⟨rfl⟩, ⟨hy.1, hj, by rw [best_step hj hy.2.2]; exact bstep_2 fun h => h.elim (fun h => by rw [fy] at h; cases h) fun h => h.elim (fun h => cl h) fun h => h.elim (fun h => c9 h.2) fun h => cx h.1⟩, hk, by show y.c.st.its.length - (y.j + 1) < y.c.st.its.length - y.j; omega⟩
      · have c0 := of_decide_eq_false c0
        have cl : op ≠ bLast := fun x => by subst x; exact absurd cl (by decide)
        have cm : op ≠ bMin := fun x => by subst x; exact absurd cm (by decide)
        have cx : op = bMax := eq_of_beq cx
        have c8 := of_decide_eq_true c8
        exact ⟨⟨y.i, y.c, y.j + 1, ⟨y.c.st.its[y.j].k, y.c.st.its[y.j].n, y.c.st.its[y.j].s, true⟩⟩, ⟨by rw [wrapN (by omega)]⟩, ⟨rfl⟩, ⟨hy.1, hj, by rw [best_step hj hy.2.2]; exact bstep_1 c0 (.inr (.inr (.inr ⟨cx, c8⟩)))⟩, hk, by show y.c.st.its.length - (y.j + 1) < y.c.st.its.length - y.j; omega⟩
      · have c0 := of_decide_eq_false c0
        have cl : op ≠ bLast := fun x => by subst x; exact absurd cl (by decide)
        have cm : op ≠ bMin := fun x => by subst x; exact absurd cm (by decide)
        have cx : op = bMax := eq_of_beq cx
        have c8 := of_decide_eq_false c8
        exact ⟨⟨y.i, y.c, y.j + 1, y.b⟩, ⟨by rw [wrapN (by omega), fy]⟩, ⟨rfl⟩, ⟨hy.1, hj, by rw [best_step hj hy.2.2]; exact bstep_2 fun h => h.elim (fun h => by rw [fy] at h; cases h) fun h => h.elim (fun h => cl h) fun h => h.elim (fun h => cm h.1) fun h => c8 h.2⟩, hk, by show y.c.st.its.length - (y.j + 1) < y.c.st.its.length - y.j; omega⟩
      · have c0 := of_decide_eq_false c0
        have cl : op ≠ bLast := fun x => by subst x; exact absurd cl (by decide)
        have cm : op ≠ bMin := fun x => by subst x; exact absurd cm (by decide)
        have cx : op ≠ bMax := fun x => by subst x; exact absurd cx (by decide)
        exact ⟨⟨y.i, y.c, y.j + 1, y.b⟩, ⟨by rw [wrapN (by omega), fy]⟩, ⟨rfl⟩, ⟨hy.1, hj, by rw [best_step hj hy.2.2]; exact bstep_2 fun h => h.elim (fun h => by rw [fy] at h; cases h) fun h => h.elim (fun h => cl h) fun h => h.elim (fun h => cm h.1) fun h => cx h.1⟩, hk, by show y.c.st.its.length - (y.j + 1) < y.c.st.its.length - y.j; omega⟩
    · have ge2 := of_decide_eq_false ge2
      obtain ⟨hyi, hyj, hyb⟩ := hy
      have e : x.1 = y.i := by
        have := congrArg (fun o : Option AV => match o with | some (.int _ z) => z | _ => 0) hk
        have this : (x.1 : Int) = y.i := this
        omega
      have hin : x.1 < l.length := hil
      refine ⟨(y.i + 1, y.b), ⟨by rw [wrapN (by omega), fy]⟩, ⟨rfl⟩, ⟨by show y.i + 1 ≤ _; omega, ?_⟩, by show l.length - (y.i + 1) < l.length - x.1; omega⟩
      show bestP op (itsOf (l.take (y.i + 1))) = y.b
      rw [itsOf_succ hyi, ← hyb, show y.c.st.its.take y.j = y.c.st.its from List.take_of_length_le (by omega)]
    · have lt2 := of_decide_eq_true lt2
      have hj : y.j < y.c.st.its.length := by omega
      have hjl := hcl y.c hy.1
      refine ⟨⟨by omega, by rw [len_its]; omega⟩, _, _, _, _, _, _, by rw [Int.toNat_natCast]; exact take_it hj, fun c0 => ?_, fun c0 => ⟨_, callIs_iff.2 rfl, ?_⟩⟩
      · have c0 := of_decide_eq_true c0
        exact ⟨⟨y.i, y.c, y.j + 1, y.b⟩, ⟨by rw [wrapN (by omega), fy]⟩, ⟨rfl⟩, ⟨hy.1, hj, by rw [best_step hj hy.2.2]; exact bstep_0 c0⟩, hk, by show y.c.st.its.length - (y.j + 1) < y.c.st.its.length - y.j; omega⟩
      · have c0 := of_decide_eq_false c0
        exact ⟨⟨y.i, y.c, y.j + 1, ⟨y.c.st.its[y.j].k, y.c.st.its[y.j].n, y.c.st.its[y.j].s, true⟩⟩, ⟨by rw [wrapN (by omega)]⟩, ⟨rfl⟩, ⟨hy.1, hj, by rw [best_step hj hy.2.2]; exact bstep_1 c0 (.inl fy)⟩, hk, by show y.c.st.its.length - (y.j + 1) < y.c.st.its.length - y.j; omega⟩
    · have ge2 := of_decide_eq_false ge2
      obtain ⟨hyi, hyj, hyb⟩ := hy
      have e : x.1 = y.i := by
        have := congrArg (fun o : Option AV => match o with | some (.int _ z) => z | _ => 0) hk
        have this : (x.1 : Int) = y.i := this
        omega
      have hin : x.1 < l.length := hil
      refine ⟨(y.i + 1, y.b), ⟨by rw [wrapN (by omega), fy]⟩, ⟨rfl⟩, ⟨by show y.i + 1 ≤ _; omega, ?_⟩, by show l.length - (y.i + 1) < l.length - x.1; omega⟩
      show bestP op (itsOf (l.take (y.i + 1))) = y.b
      rw [itsOf_succ hyi, ← hyb, show y.c.st.its.take y.j = y.c.st.its from List.take_of_length_le (by omega)]
  · have ge := of_decide_eq_false ge
    refine retIs_iff.2 ?_
    have hall : l.take x.1 = l := List.take_of_length_le (by omega)
    show _ = (keepV op l, _); unfold keepV; rw [if_neg hd, ← hx.2, hall]
end Go.Abs

namespace Go.Abs
open Go.Proofs Go.Proofs.K17 Go.Proofs.D17 Go.RowKit
theorem cntP_succ {l : List CeI} {i : Nat} (h : i < l.length) : cntP (l.take (i + 1)) = wrap64 (cntP (l.take i) + l[i].st.n) := by
  unfold cntP
  rw [List.take_succ_eq_append_getElem h, List.foldl_append]; rfl
theorem cnt_ok (l : List CeI) : iOk (cntP l) := by
  have h : ∀ (l : List CeI) (s : Int), iOk s → iOk (l.foldl (fun s c => wrap64 (s + c.st.n)) s) := by
    intro l
    induction l with
    | nil => exact fun s h => h
    | cons c l ih => exact fun s _ => ih (wrap64 (s + c.st.n)) (by have := w64_range (s + c.st.n); unfold iOk; omega)
  exact h l 0 (by unfold iOk; omega)
theorem valP_form (fam : Fam) (op : List UInt8) (param kind t n : Int) (l : List CeI) : ∃ a b s, valP fam op param kind t n l = .agg [.int .i64 a, .int .i64 b, .str s] := by
  cases fam with
  | cnt => exact ⟨_, _, _, rfl⟩
  | sum =>
    show ∃ a b s, addV' op param kind t n l = _
    unfold addV'
    split
    · exact numP_form _ _ _
    · split <;> exact numP_form _ _ _
  | smp =>
    show ∃ a b s, smpV param kind l = _
    unfold smpV
    split
    · exact ⟨_, _, _, rfl⟩
    · split <;> exact ⟨_, _, _, rfl⟩
  | keep f =>
    show ∃ a b s, keepV op l = _
    unfold keepV
    split <;> exact ⟨_, _, _, rfl⟩
theorem sVal_of {fam : Fam} {rc : List AV} (hr : rcOk fam rc = true) {op : List UInt8} {param kind t n : Int} {l : List CeI} (hl : cesOk l) (hn : iOk n) (hp : iOk param) : sVal fam [.agg rc, .agg (qC op param kind t n l)] = some (valP fam op param kind t n l, []) := by
  simp only [sVal, show unL unCe (cesL l) = some l from unL_map unCe_ok l]
  rw [if_pos ⟨hr, .inl trivial, hl, hn, hp⟩]
theorem resv1 {op : List UInt8} {param kind t : Int} {l : List CeI} {fam : Fam} (hf : famO op = some fam) (h : ¬ (cntP l < 1 ∧ op ≠ bCount ∧ op ≠ bDistinct)) : resP op param kind l t = valP fam op param kind t (cntP l) l := by
  unfold resP; rw [hf]; simp only; rw [if_neg h]
theorem resv0 {op : List UInt8} {param kind t : Int} {l : List CeI} {fam : Fam} (hf : famO op = some fam) (h : cntP l < 1 ∧ op ≠ bCount ∧ op ≠ bDistinct) : resP op param kind l t = valA 0 0 [] := by
  unfold resP; rw [hf]; simp only; rw [if_pos h]
theorem p18N (k0 : Int) (op : List UInt8) (param kind t : Int) (l : List CeI) (hf : famO op = none) (hl : cesOk l) : PureOk PA GA (XR none) (tbl [(40, s24)]) (itbl []) (a18 k0 op param kind t l (.lit .nilIface) false) [] 9 [.agg (exC k0 op param), .int .i64 kind, .sl 6 (cesL l) .no, .int .i64 t] (resP op param kind l t, []) := by
  constructor
  rw [w18N, hf]
  refine ⟨callIs_iff.2 rfl, fun h => (nomatch h), fun _ => ⟨⟨0, ⟨by rw [len_ces]; rfl⟩, ⟨by rw [List.take_zero]; rfl⟩, Nat.zero_le _, trivial⟩, fun i hi => ⟨fun lt => ?_, fun ge => ?_⟩⟩⟩
  · have lt := of_decide_eq_true lt
    have hil : i < l.length := by omega
    have hlen := hl.1
    exact ⟨⟨by omega, by rw [len_ces]; omega⟩, _, _, _, _, _, _, by rw [Int.toNat_natCast]; exact take_ce hil, i + 1, ⟨by rw [wrapN (by omega)]⟩, ⟨by rw [cntP_succ hil, iw]⟩, hil, by omega⟩
  · refine retIs_iff.2 ?_
    unfold resP; rw [hf]
theorem p18C (k0 : Int) (op : List UInt8) (param kind t : Int) (l : List CeI) (hf : famO op = some .cnt) (hl : cesOk l) (hp : iOk param) : PureOk PA GA (XR (some .cnt)) (tbl [(40, s24), (103, s43)]) (itbl []) (a18 k0 op param kind t l (.lit (.iface 101 (.agg #[]))) true) [] 9 [.agg (exC k0 op param), .int .i64 kind, .sl 6 (cesL l) .no, .int .i64 t] (resP op param kind l t, []) := by
  constructor
  rw [w18C, hf]
  refine ⟨callIs_iff.2 rfl, fun _ => ⟨⟨0, ⟨by rw [len_ces]; rfl⟩, ⟨by rw [List.take_zero]; rfl⟩, Nat.zero_le _, trivial⟩, fun i hi => ⟨fun lt => ?_, fun ge => ?_⟩⟩, fun h => (nomatch h)⟩
  · have lt := of_decide_eq_true lt
    have hil : i < l.length := by omega
    have hlen := hl.1
    exact ⟨⟨by omega, by rw [len_ces]; omega⟩, _, _, _, _, _, _, by rw [Int.toNat_natCast]; exact take_ce hil, i + 1, ⟨by rw [wrapN (by omega)]⟩, ⟨by rw [cntP_succ hil, iw]⟩, hil, by omega⟩
  · have ge := of_decide_eq_false ge
    have hall : l.take i = l := List.take_of_length_le (by omega)
    rw [hall]
    obtain ⟨a, b, s, he⟩ := valP_form .cnt op param kind t (cntP l) l
    have hcall : tbl [(40, s24), (103, s43)] 103 [AV.agg [], .agg (qC op param kind t (cntP l) l)] = some (AV.agg [.int .i64 a, .int .i64 b, .str s], []) := by
      rw [tb_miss (by decide), tb_hit, ← he]; exact sVal_of rfl hl (cnt_ok l) hp
    refine ⟨fun c => ⟨fun d => ⟨fun e => retIs_iff.2 ?_, fun e => ?_⟩, fun d => ?_⟩, fun c => ?_⟩
    · have c := of_decide_eq_true c
      have d : op ≠ bCount := fun x => by subst x; exact absurd d (by decide)
      have e : op ≠ bDistinct := fun x => by subst x; exact absurd e (by decide)
      rw [resv0 hf ⟨c, d, e⟩]
    · have e : op = bDistinct := by simpa using e
      exact ⟨a, b, s, callIs_iff.2 hcall, retIs_iff.2 (by rw [resv1 hf (fun x => x.2.2 e), he])⟩
    · have d : op = bCount := by simpa using d
      exact ⟨a, b, s, callIs_iff.2 hcall, retIs_iff.2 (by rw [resv1 hf (fun x => x.2.1 d), he])⟩
    · have c := of_decide_eq_false c
      exact ⟨a, b, s, callIs_iff.2 hcall, retIs_iff.2 (by rw [resv1 hf (fun x => c x.1), he])⟩
theorem p18S (k0 : Int) (op : List UInt8) (param kind t : Int) (l : List CeI) (hf : famO op = some .sum) (hl : cesOk l) (hp : iOk param) : PureOk PA GA (XR (some .sum)) (tbl [(40, s24), (106, s46)]) (itbl []) (a18 k0 op param kind t l (.lit (.iface 103 (.agg #[]))) true) [] 9 [.agg (exC k0 op param), .int .i64 kind, .sl 6 (cesL l) .no, .int .i64 t] (resP op param kind l t, []) := by
  constructor
  rw [w18S, hf]
  refine ⟨callIs_iff.2 rfl, fun _ => ⟨⟨0, ⟨by rw [len_ces]; rfl⟩, ⟨by rw [List.take_zero]; rfl⟩, Nat.zero_le _, trivial⟩, fun i hi => ⟨fun lt => ?_, fun ge => ?_⟩⟩, fun h => (nomatch h)⟩
  · have lt := of_decide_eq_true lt
    have hil : i < l.length := by omega
    have hlen := hl.1
    exact ⟨⟨by omega, by rw [len_ces]; omega⟩, _, _, _, _, _, _, by rw [Int.toNat_natCast]; exact take_ce hil, i + 1, ⟨by rw [wrapN (by omega)]⟩, ⟨by rw [cntP_succ hil, iw]⟩, hil, by omega⟩
  · have ge := of_decide_eq_false ge
    have hall : l.take i = l := List.take_of_length_le (by omega)
    rw [hall]
    obtain ⟨a, b, s, he⟩ := valP_form .sum op param kind t (cntP l) l
    have hcall : tbl [(40, s24), (106, s46)] 106 [AV.agg [], .agg (qC op param kind t (cntP l) l)] = some (AV.agg [.int .i64 a, .int .i64 b, .str s], []) := by
      rw [tb_miss (by decide), tb_hit, ← he]; exact sVal_of rfl hl (cnt_ok l) hp
    refine ⟨fun c => ⟨fun d => ⟨fun e => retIs_iff.2 ?_, fun e => ?_⟩, fun d => ?_⟩, fun c => ?_⟩
    · have c := of_decide_eq_true c
      have d : op ≠ bCount := fun x => by subst x; exact absurd d (by decide)
      have e : op ≠ bDistinct := fun x => by subst x; exact absurd e (by decide)
      rw [resv0 hf ⟨c, d, e⟩]
    · have e : op = bDistinct := by simpa using e
      exact ⟨a, b, s, callIs_iff.2 hcall, retIs_iff.2 (by rw [resv1 hf (fun x => x.2.2 e), he])⟩
    · have d : op = bCount := by simpa using d
      exact ⟨a, b, s, callIs_iff.2 hcall, retIs_iff.2 (by rw [resv1 hf (fun x => x.2.1 d), he])⟩
    · have c := of_decide_eq_false c
      exact ⟨a, b, s, callIs_iff.2 hcall, retIs_iff.2 (by rw [resv1 hf (fun x => c x.1), he])⟩
theorem p18Q (k0 : Int) (op : List UInt8) (param kind t : Int) (l : List CeI) (hf : famO op = some .smp) (hl : cesOk l) (hp : iOk param) : PureOk PA GA (XR (some .smp)) (tbl [(40, s24), (111, s65)]) (itbl []) (a18 k0 op param kind t l (.lit (.iface 104 (.agg #[]))) true) [] 9 [.agg (exC k0 op param), .int .i64 kind, .sl 6 (cesL l) .no, .int .i64 t] (resP op param kind l t, []) := by
  constructor
  rw [w18Q, hf]
  refine ⟨callIs_iff.2 rfl, fun _ => ⟨⟨0, ⟨by rw [len_ces]; rfl⟩, ⟨by rw [List.take_zero]; rfl⟩, Nat.zero_le _, trivial⟩, fun i hi => ⟨fun lt => ?_, fun ge => ?_⟩⟩, fun h => (nomatch h)⟩
  · have lt := of_decide_eq_true lt
    have hil : i < l.length := by omega
    have hlen := hl.1
    exact ⟨⟨by omega, by rw [len_ces]; omega⟩, _, _, _, _, _, _, by rw [Int.toNat_natCast]; exact take_ce hil, i + 1, ⟨by rw [wrapN (by omega)]⟩, ⟨by rw [cntP_succ hil, iw]⟩, hil, by omega⟩
  · have ge := of_decide_eq_false ge
    have hall : l.take i = l := List.take_of_length_le (by omega)
    rw [hall]
    obtain ⟨a, b, s, he⟩ := valP_form .smp op param kind t (cntP l) l
    have hcall : tbl [(40, s24), (111, s65)] 111 [AV.agg [], .agg (qC op param kind t (cntP l) l)] = some (AV.agg [.int .i64 a, .int .i64 b, .str s], []) := by
      rw [tb_miss (by decide), tb_hit, ← he]; exact sVal_of rfl hl (cnt_ok l) hp
    refine ⟨fun c => ⟨fun d => ⟨fun e => retIs_iff.2 ?_, fun e => ?_⟩, fun d => ?_⟩, fun c => ?_⟩
    · have c := of_decide_eq_true c
      have d : op ≠ bCount := fun x => by subst x; exact absurd d (by decide)
      have e : op ≠ bDistinct := fun x => by subst x; exact absurd e (by decide)
      rw [resv0 hf ⟨c, d, e⟩]
    · have e : op = bDistinct := by simpa using e
      exact ⟨a, b, s, callIs_iff.2 hcall, retIs_iff.2 (by rw [resv1 hf (fun x => x.2.2 e), he])⟩
    · have d : op = bCount := by simpa using d
      exact ⟨a, b, s, callIs_iff.2 hcall, retIs_iff.2 (by rw [resv1 hf (fun x => x.2.1 d), he])⟩
    · have c := of_decide_eq_false c
      exact ⟨a, b, s, callIs_iff.2 hcall, retIs_iff.2 (by rw [resv1 hf (fun x => c x.1), he])⟩
theorem p18K (k0 : Int) (op : List UInt8) (param kind t : Int) (l : List CeI) (hf : famO op = some (.keep false)) (hl : cesOk l) (hp : iOk param) : PureOk PA GA (XR (some (.keep false))) (tbl [(40, s24), (146, s101)]) (itbl []) (a18 k0 op param kind t l (.lit (.iface 106 (.agg #[.bool false]))) true) [] 9 [.agg (exC k0 op param), .int .i64 kind, .sl 6 (cesL l) .no, .int .i64 t] (resP op param kind l t, []) := by
  constructor
  rw [w18K, hf]
  refine ⟨callIs_iff.2 rfl, fun _ => ⟨⟨0, ⟨by rw [len_ces]; rfl⟩, ⟨by rw [List.take_zero]; rfl⟩, Nat.zero_le _, trivial⟩, fun i hi => ⟨fun lt => ?_, fun ge => ?_⟩⟩, fun h => (nomatch h)⟩
  · have lt := of_decide_eq_true lt
    have hil : i < l.length := by omega
    have hlen := hl.1
    exact ⟨⟨by omega, by rw [len_ces]; omega⟩, _, _, _, _, _, _, by rw [Int.toNat_natCast]; exact take_ce hil, i + 1, ⟨by rw [wrapN (by omega)]⟩, ⟨by rw [cntP_succ hil, iw]⟩, hil, by omega⟩
  · have ge := of_decide_eq_false ge
    have hall : l.take i = l := List.take_of_length_le (by omega)
    rw [hall]
    obtain ⟨a, b, s, he⟩ := valP_form (.keep false) op param kind t (cntP l) l
    have hcall : tbl [(40, s24), (146, s101)] 146 [AV.agg [.bool false], .agg (qC op param kind t (cntP l) l)] = some (AV.agg [.int .i64 a, .int .i64 b, .str s], []) := by
      rw [tb_miss (by decide), tb_hit, ← he]; exact sVal_of rfl hl (cnt_ok l) hp
    refine ⟨fun c => ⟨fun d => ⟨fun e => retIs_iff.2 ?_, fun e => ?_⟩, fun d => ?_⟩, fun c => ?_⟩
    · have c := of_decide_eq_true c
      have d : op ≠ bCount := fun x => by subst x; exact absurd d (by decide)
      have e : op ≠ bDistinct := fun x => by subst x; exact absurd e (by decide)
      rw [resv0 hf ⟨c, d, e⟩]
    · have e : op = bDistinct := by simpa using e
      exact ⟨a, b, s, callIs_iff.2 hcall, retIs_iff.2 (by rw [resv1 hf (fun x => x.2.2 e), he])⟩
    · have d : op = bCount := by simpa using d
      exact ⟨a, b, s, callIs_iff.2 hcall, retIs_iff.2 (by rw [resv1 hf (fun x => x.2.1 d), he])⟩
    · have c := of_decide_eq_false c
      exact ⟨a, b, s, callIs_iff.2 hcall, retIs_iff.2 (by rw [resv1 hf (fun x => c x.1), he])⟩
theorem p18O (k0 : Int) (op : List UInt8) (param kind t : Int) (l : List CeI) (hf : famO op = some (.keep true)) (hl : cesOk l) (hp : iOk param) : PureOk PA GA (XR (some (.keep true))) (tbl [(40, s24), (146, s101)]) (itbl []) (a18 k0 op param kind t l (.lit (.iface 106 (.agg #[.bool true]))) true) [] 9 [.agg (exC k0 op param), .int .i64 kind, .sl 6 (cesL l) .no, .int .i64 t] (resP op param kind l t, []) := by
  constructor
  rw [w18O, hf]
  refine ⟨callIs_iff.2 rfl, fun _ => ⟨⟨0, ⟨by rw [len_ces]; rfl⟩, ⟨by rw [List.take_zero]; rfl⟩, Nat.zero_le _, trivial⟩, fun i hi => ⟨fun lt => ?_, fun ge => ?_⟩⟩, fun h => (nomatch h)⟩
  · have lt := of_decide_eq_true lt
    have hil : i < l.length := by omega
    have hlen := hl.1
    exact ⟨⟨by omega, by rw [len_ces]; omega⟩, _, _, _, _, _, _, by rw [Int.toNat_natCast]; exact take_ce hil, i + 1, ⟨by rw [wrapN (by omega)]⟩, ⟨by rw [cntP_succ hil, iw]⟩, hil, by omega⟩
  · have ge := of_decide_eq_false ge
    have hall : l.take i = l := List.take_of_length_le (by omega)
    rw [hall]
    obtain ⟨a, b, s, he⟩ := valP_form (.keep true) op param kind t (cntP l) l
    have hcall : tbl [(40, s24), (146, s101)] 146 [AV.agg [.bool true], .agg (qC op param kind t (cntP l) l)] = some (AV.agg [.int .i64 a, .int .i64 b, .str s], []) := by
      rw [tb_miss (by decide), tb_hit, ← he]; exact sVal_of rfl hl (cnt_ok l) hp
    refine ⟨fun c => ⟨fun d => ⟨fun e => retIs_iff.2 ?_, fun e => ?_⟩, fun d => ?_⟩, fun c => ?_⟩
    · have c := of_decide_eq_true c
      have d : op ≠ bCount := fun x => by subst x; exact absurd d (by decide)
      have e : op ≠ bDistinct := fun x => by subst x; exact absurd e (by decide)
      rw [resv0 hf ⟨c, d, e⟩]
    · have e : op = bDistinct := by simpa using e
      exact ⟨a, b, s, callIs_iff.2 hcall, retIs_iff.2 (by rw [resv1 hf (fun x => x.2.2 e), he])⟩
    · have d : op = bCount := by simpa using d
      exact ⟨a, b, s, callIs_iff.2 hcall, retIs_iff.2 (by rw [resv1 hf (fun x => x.2.1 d), he])⟩
    · have c := of_decide_eq_false c
      exact ⟨a, b, s, callIs_iff.2 hcall, retIs_iff.2 (by rw [resv1 hf (fun x => c x.1), he])⟩
end Go.Abs

namespace Go.Abs
open Go.Proofs Go.Proofs.K17 Go.Proofs.D17 Go.RowKit
theorem spec_wkF {P : Program} {G : Glob} {f : FuncId} {s : Spec} (g : AV → AV) (hr : ∀ {E : Env} {w : World} {a : AV} {v : Value}, Rep E w a v → Rep E w (g a) v) (hc : ∀ {a : AV}, a.closed1 = true → (g a).closed1 = true) (h : ∀ args r, s args = some r → SpecOk P G f (fun a => open Classical in if a = args.map g then some r else none)) : SpecOk P G f s := by
  intro g' args r lv hr'
  simp only at hr'
  split at hr'
  · rename_i e
    subst e
    have := h args (r, lv) hr' g' (args.map g) r lv (by simp)
    intro E w vs hI hG hn hv hcl
    refine this E w vs hI hG (by rw [List.length_map]; exact hn) (fun i c v hi hv' => ?_) fun c hc' => ?_
    · rw [List.getElem?_map] at hi
      cases ha : args[i]? with
      | none => rw [ha] at hi; cases hi
      | some a =>
        rw [ha] at hi
        simp only [Option.map_some, Option.some.injEq] at hi
        subst hi
        exact hr (hv i a v ha hv')
    · obtain ⟨a, ha, rfl⟩ := List.mem_map.1 hc'
      exact hc (hcl a ha)
  · cases hr'
def unQ : AV → Option (List AV)
  | .agg [.str op, .int .i64 p, .int .i64 k, .int .i64 t, .int .i64 n, .sl sz es _] => match unL unCe es with
    | some l => if sz = 6 ∨ l = [] then some (qC op p k t n l) else none
    | none => none
  | _ => none
def wkQ (a : AV) : AV := match unQ a with
  | some q => .agg q
  | none => a
theorem unQ_inv {a : AV} {q : List AV} (h : unQ a = some q) : Lax1 a (.agg q) ∧ (AV.agg q).closed1 = true := by
  unfold unQ at h
  split at h
  · split at h
    · rename_i l hl
      split at h
      · rename_i hc
        injection h with h; subst h
        obtain rfl := unL_inv unCe_inv hl
        refine ⟨⟨rfl, rfl, rfl, rfl, rfl, ⟨rfl, rfl, ?_⟩, trivial⟩, rfl⟩
        rcases hc with h | h
        · exact .inl h
        · exact .inr (by rw [h]; rfl)
      · cases h
    · cases h
  · cases h
theorem rep_wkQ {E : Env} {w : World} {a : AV} {v : Value} (h : Rep E w a v) : Rep E w (wkQ a) v := by
  unfold wkQ
  split
  · rename_i q hq; exact (unQ_inv hq).1.rep h
  · exact h
theorem closed_wkQ {a : AV} (h : a.closed1 = true) : (wkQ a).closed1 = true := by
  unfold wkQ
  split
  · rename_i q hq; exact (unQ_inv hq).2
  · exact h
theorem sVal_inv {fam : Fam} {args : List AV} {r : AV × List (Nat × TypeId)} (h : sVal fam args = some r) : ∃ rc op param kind t n l, args.map wkQ = [.agg rc, .agg (qC op param kind t n l)] ∧ rcOk fam rc = true ∧ cesOk l ∧ iOk n ∧ iOk param ∧ r = (valP fam op param kind t n l, []) := by
  unfold sVal at h
  split at h
  case h_2 => cases h
  rename_i rc op param kind t n sz es o
  split at h
  case h_2 => cases h
  rename_i l hl
  split at h
  case isFalse => cases h
  rename_i hc
  obtain ⟨h1, h2, h3, h4, h5⟩ := hc
  injection h with h; subst h
  refine ⟨rc, op, param, kind, t, n, l, ?_, h1, h3, h4, h5, rfl⟩
  have e1 : wkQ (.agg rc) = .agg rc := by
    unfold rcOk at h1
    split at h1 <;> first | rfl | cases h1
  have e2 : wkQ (.agg [.str op, .int .i64 param, .int .i64 kind, .int .i64 t, .int .i64 n, .sl sz es o]) = .agg (qC op param kind t n l) := by
    have : unQ (.agg [.str op, .int .i64 param, .int .i64 kind, .int .i64 t, .int .i64 n, .sl sz es o]) = some (qC op param kind t n l) := by
      simp only [unQ, hl]; rw [if_pos h2]
    unfold wkQ; rw [this]
  rw [List.map_cons, List.map_cons, e1, e2]; rfl
theorem rc_nil {fam : Fam} {rc : List AV} (h : rcOk fam rc = true) (hf : ∀ f, fam ≠ .keep f) : rc = [] := by
  unfold rcOk at h
  split at h
  · exact absurd rfl (hf _)
  · cases h
  · rfl
  · cases h
theorem o43 : SpecOk PA GA 103 s43 := spec_wkF wkQ rep_wkQ closed_wkQ fun args r h => by
  obtain ⟨rc, op, param, kind, t, n, l, e, hr, hl, hn, hp, rfl⟩ := sVal_inv h
  obtain rfl := rc_nil hr (fun f => by simp)
  rw [e]
  exact one_pure mixedA tbl_nil itbl_nil (p43 op param kind t n l)
theorem o46 : SpecOk PA GA 106 s46 := spec_wkF wkQ rep_wkQ closed_wkQ fun args r h => by
  obtain ⟨rc, op, param, kind, t, n, l, e, hr, hl, hn, hp, rfl⟩ := sVal_inv h
  obtain rfl := rc_nil hr (fun f => by simp)
  rw [e]
  exact one_pure mixedA (tbl_cons o50 (tbl_cons o8 (tbl_cons o49 (tbl_cons o47 (tbl_cons o51 tbl_nil))))) itbl_nil (p46 op param kind t n l hl hp hn)
theorem o65 : SpecOk PA GA 111 s65 := spec_wkF wkQ rep_wkQ closed_wkQ fun args r h => by
  obtain ⟨rc, op, param, kind, t, n, l, e, hr, hl, hn, hp, rfl⟩ := sVal_inv h
  obtain rfl := rc_nil hr (fun f => by simp)
  rw [e]
  exact one_pure mixedA (tbl_cons o66 (tbl_cons o68 tbl_nil)) itbl_nil (p65 op param kind t n l hl)
theorem o101 : SpecOk PA GA 146 s101 := spec_wkF wkQ rep_wkQ closed_wkQ fun args r h => by
  obtain ⟨rc, op, param, kind, t, n, l, e, hr, hl, hn, hp, rfl⟩ := sVal_inv h
  rw [e]
  unfold rcOk at hr
  split at hr
  · exact one_pure mixedA (tbl_cons o104 (tbl_cons o105 tbl_nil)) itbl_nil (p101 _ op param kind t n l hl)
  · cases hr
  · rename_i hx; exact absurd rfl (hx _)
  · cases hr
theorem o18 : SpecOk PA GA 9 s18 := spec_wkS fun args r h => by
  unfold s18 at h
  split at h
  case h_2 => cases h
  rename_i k0 op a b c d e z1 param f g z2 kind sz es o t
  split at h
  case h_2 => cases h
  rename_i l hl
  split at h
  case isFalse => cases h
  rename_i hc
  injection h with h; subst h
  obtain ⟨⟨⟨ha, hb, he⟩, hc1, hd, hf0, hg, hz1, hz2⟩, hs, hl2, hp⟩ := hc
  obtain rfl := List.isEmpty_iff.1 ha
  obtain rfl := List.isEmpty_iff.1 hb
  obtain rfl := List.isEmpty_iff.1 he
  subst hc1 hd hf0 hg hz1 hz2
  obtain rfl := unL_inv unCe_inv hl
  have e : [AV.agg (exC k0 op param), .int .i64 kind, .sl sz (l.map ceA) o, .int .i64 t].map wkSt = [.agg (exC k0 op param), .int .i64 kind, .sl 6 (cesL l) .no, .int .i64 t] := by
    cases l with
    | nil => rfl
    | cons x l =>
      obtain rfl : sz = 6 := hs.resolve_right (by simp)
      rfl
  rw [e]
  rcases hf : famO op with _ | fam
  · exact one_pure mixedA (tbl_cons o24 tbl_nil) itbl_nil (p18N k0 op param kind t l hf hl2)
  · rcases fam with _ | _ | _ | f
    · exact one_pure mixedA (tbl_cons o24 (tbl_cons o43 tbl_nil)) itbl_nil (p18C k0 op param kind t l hf hl2 hp)
    · exact one_pure mixedA (tbl_cons o24 (tbl_cons o46 tbl_nil)) itbl_nil (p18S k0 op param kind t l hf hl2 hp)
    · exact one_pure mixedA (tbl_cons o24 (tbl_cons o65 tbl_nil)) itbl_nil (p18Q k0 op param kind t l hf hl2 hp)
    · cases f with
      | false => exact one_pure mixedA (tbl_cons o24 (tbl_cons o101 tbl_nil)) itbl_nil (p18K k0 op param kind t l hf hl2 hp)
      | true => exact one_pure mixedA (tbl_cons o24 (tbl_cons o101 tbl_nil)) itbl_nil (p18O k0 op param kind t l hf hl2 hp)
end Go.Abs

namespace Go.Abs
open Go.Proofs Go.RowKit
theorem spec_run {P : Program} {G : Glob} {R0 : Callee} (hm : P.follows .mixedOrders = true) (h0 : CalleeOk P G R0) {f : FuncId} {s : Spec} (h : ∀ args r, s args = some r → ∃ n, (evs P G R0 (fun _ => []) n).1 f args = some r) : SpecOk P G f s := by
  intro g args r lv hr
  simp only at hr
  split at hr
  · rename_i e
    subst e
    obtain ⟨n, hn⟩ := h args _ hr
    exact (evs_ok hm h0 (fun _ => []) n).1 g args r lv hn
  · cases hr
noncomputable abbrev tEx : List (FuncId × Spec) := [(10, s12), (9, s18), (18, s8), (22, s22)]
theorem tEx_ok : CalleeOk PA GA (tbl tEx) := tbl_cons o12 (tbl_cons o18 (tbl_cons o8 (tbl_cons o22 tbl_nil)))
def s7 : Spec := fun args => match args with
  | [] => some (.bool true, [])
  | _ => none

theorem run7 : (evs PA GA (tbl tEx) (fun _ => []) 9).1 7 [] = some (.bool true, []) := by kernel_rfl
theorem o7 : SpecOk PA GA 7 s7 := spec_run mixedA tEx_ok fun args r h => by
  unfold s7 at h
  split at h
  case h_2 => cases h
  injection h with h; subst h
  exact ⟨9, run7⟩
end Go.Abs

namespace Go.Abs
open Go.Proofs Go.Proofs.K17 Go.RowKit
def prC (m : Int) (c : UInt8) : Bool := !(decide ((c.toNat : Int) < m) || decide ((c.toNat : Int) > 126) || ((c.toNat : Int) == 34) || ((c.toNat : Int) == 92))
def prP (m : Int) (s : List UInt8) : Bool := s.all (prC m)
def v77 : Spec := fun args => match args with
  | [.str s, .int .u8 m] => if s.length ≤ 1000 then some (.bool (prP m s), []) else none
  | _ => none
def txP (s : List UInt8) : Bool := decide (s.length ≤ 64) && prP 32 s
def keP (s : List UInt8) : Bool := decide (s ≠ []) && decide (s.length ≤ 32) && prP 33 s
def v61 : Spec := fun args => match args with
  | [.str s] => some (.bool (txP s), [])
  | _ => none
def v62 : Spec := fun args => match args with
  | [.str s] => some (.bool (keP s), [])
  | _ => none
def fdP (k n : Int) (s : List UInt8) : Bool :=
  if k = 0 then decide (n = 0) && decide (s = []) else
  if k = 1 then (decide (n = 0) || decide (n = 1)) && decide (s = []) else
  if k = 2 ∨ k = 3 then decide (s = []) else
  if k = 4 ∨ k = 5 then decide (n = 0) else false
def v59 : Spec := fun args => match args with
  | [.agg [.int .i64 k, .int .i64 n, .str s]] => some (.bool (fdP k n s), [])
  | _ => none
def inR (n : Int) : Bool := decide (-1152921504606846976 ≤ n) && decide (n ≤ 1152921504606846976)
def v60 : Spec := fun args => match args with
  | [.int .i64 n] => some (.bool (inR n), [])
  | _ => none
def ckP (k n : Int) (s : List UInt8) : Int :=
  if fdP k n s = false then 1 else
  if inR n = false ∨ (k = 4 ∧ 64 < s.length) ∨ (k = 5 ∧ 32 < s.length) then 2 else
  if (k = 4 ∧ txP s = false) ∨ (k = 5 ∧ keP s = false) then 3 else 0
def v41 : Spec := fun args => match args with
  | [.agg [.int .i64 k, .int .i64 n, .str s]] => some (.int .i64 (ckP k n s), [])
  | _ => none
def v12 : Spec := fun args => match args with
  | [.agg [.int .i64 k, .int .i64 n, .str s]] => some (.bool (decide (ckP k n s = 0)), [])
  | _ => none
def XV : Shapes := fun f => match f with
  | 77 | 61 | 62 | 59 | 60 | 12 => some shB
  | 41 => some shI
  | _ => none
def a77 (m : Int) (s : List UInt8) : Anns := ⟨fun k => if k = 2 then some { α := Nat, slots := [0, 1, 5], nb := 0, vals := fun i => [.str s, .int .u8 m, .int .i64 i], sS := fun _ => ⟨[], []⟩, I := fun i => i ≤ s.length ∧ (s.take i).all (prC m) = true, μ := fun i => s.length - i } else none, nA⟩
end Go.Abs

namespace Go.Abs
open Go.Proofs Go.Proofs.K17 Go.RowKit
theorem y77 (m : Int) (s : List UInt8) (r : AV) : (pureW PA GA XV (tbl []) (itbl []) (a77 m s) [] 77 [.str s, .int .u8 m] (r, [])) =
((∃ (y : Nat),
    ValsAre [.str s, .int .u8 m, .int .i64 0] [.str s, .int .u8 m, .int .i64 (↑y : Int)] ∧
      StIs { boxes := [], live := [] } { boxes := [], live := [] } ∧ (y ≤ s.length ∧ (List.take y s).all (prC m) = true) ∧ True) ∧
  ∀ (x : Nat),
    x ≤ s.length ∧ (List.take x s).all (prC m) = true →
      (decide ((↑x : Int) < (↑s.length : Int)) = true →
 (0 : Int) ≤ (↑x : Int) ∧
 ∃ (c : UInt8),
 s[(↑x : Int).toNat]? = some c ∧
 (decide ((↑c.toNat : Int) < m) = true → RetIs (AV.bool false) [] (r, [])) ∧
 (decide ((↑c.toNat : Int) < m) = false →
 (0 : Int) ≤ (↑x : Int) ∧
 ∃ (c : UInt8),
 s[(↑x : Int).toNat]? = some c ∧
 (decide ((↑c.toNat : Int) > (126 : Int)) = true → RetIs (AV.bool false) [] (r, [])) ∧
 (decide ((↑c.toNat : Int) > (126 : Int)) = false →
 (0 : Int) ≤ (↑x : Int) ∧
 ∃ (c : UInt8),
 s[(↑x : Int).toNat]? = some c ∧
 (((↑c.toNat : Int) == (34 : Int)) = true → RetIs (AV.bool false) [] (r, [])) ∧
 (((↑c.toNat : Int) == (34 : Int)) = false →
 (0 : Int) ≤ (↑x : Int) ∧
 ∃ (c : UInt8),
 s[(↑x : Int).toNat]? = some c ∧
 (((↑c.toNat : Int) == (92 : Int)) = true → RetIs (AV.bool false) [] (r, [])) ∧
 (((↑c.toNat : Int) == (92 : Int)) = false →
 ∃ (y : Nat),
 ValsAre [.str s, .int .u8 m, .int .i64 (IntKind.i64.wrap ((↑x : Int) + (1 : Int)))]
 [.str s, .int .u8 m, .int .i64 (↑y : Int)] ∧
 StIs { boxes := [], live := [] } { boxes := [], live := [] } ∧
 (y ≤ s.length ∧ (List.take y s).all (prC m) = true) ∧ s.length - y < s.length - x))))) ∧
        (decide ((↑x : Int) < (↑s.length : Int)) = false → RetIs (AV.bool true) [] (r, []))) := by kernel_rfl
theorem y61 (s : List UInt8) (r : AV) : (pureW PA GA XV (tbl [(77, v77)]) (itbl []) nAn [] 61 [.str s] (r, [])) =
((decide ((↑s.length : Int) ≤ (64 : Int)) = true →
    ∃ (b : Bool),
      CallIs (tbl [((77 : Nat), v77)] 77 [.str s, .int .u8 (32 : Int)]) (AV.bool b) [] ∧
        (b = true → RetIs (AV.bool true) [] (r, [])) ∧ (b = false → RetIs (AV.bool false) [] (r, []))) ∧
  (decide ((↑s.length : Int) ≤ (64 : Int)) = false → RetIs (AV.bool false) [] (r, []))) := by kernel_rfl
theorem y62 (s : List UInt8) (r : AV) : (pureW PA GA XV (tbl [(77, v77)]) (itbl []) nAn [] 62 [.str s] (r, [])) =
(((!s == []) = true →
    (decide ((↑s.length : Int) ≤ (32 : Int)) = true →
        ∃ (b : Bool),
 CallIs (tbl [((77 : Nat), v77)] 77 [.str s, .int .u8 (33 : Int)]) (AV.bool b) [] ∧
 (b = true → RetIs (AV.bool true) [] (r, [])) ∧ (b = false → RetIs (AV.bool false) [] (r, []))) ∧
      (decide ((↑s.length : Int) ≤ (32 : Int)) = false → RetIs (AV.bool false) [] (r, []))) ∧
  ((!s == []) = false → RetIs (AV.bool false) [] (r, []))) := by kernel_rfl
theorem y59 (k n : Int) (s : List UInt8) (r : AV) : (pureW PA GA XV (tbl []) (itbl []) nAn [] 59 [.agg [.int .i64 k, .int .i64 n, .str s]] (r, [])) =
(((k == (0 : Int)) = true →
    ((n == (0 : Int)) = true → ((s == []) = true → RetIs (AV.bool true) [] (r, [])) ∧ ((s == []) = false → RetIs (AV.bool false) [] (r, []))) ∧
      ((n == (0 : Int)) = false → RetIs (AV.bool false) [] (r, []))) ∧
  ((k == (0 : Int)) = false →
    ((k == (1 : Int)) = true →
        ((n == (0 : Int)) = true → ((s == []) = true → RetIs (AV.bool true) [] (r, [])) ∧ ((s == []) = false → RetIs (AV.bool false) [] (r, []))) ∧
 ((n == (0 : Int)) = false →
 ((n == (1 : Int)) = true → ((s == []) = true → RetIs (AV.bool true) [] (r, [])) ∧ ((s == []) = false → RetIs (AV.bool false) [] (r, []))) ∧
 ((n == (1 : Int)) = false → RetIs (AV.bool false) [] (r, [])))) ∧
      ((k == (1 : Int)) = false →
        ((k == (2 : Int)) = true → ((s == []) = true → RetIs (AV.bool true) [] (r, [])) ∧ ((s == []) = false → RetIs (AV.bool false) [] (r, []))) ∧
 ((k == (2 : Int)) = false →
 ((k == (3 : Int)) = true → ((s == []) = true → RetIs (AV.bool true) [] (r, [])) ∧ ((s == []) = false → RetIs (AV.bool false) [] (r, []))) ∧
 ((k == (3 : Int)) = false →
 ((k == (4 : Int)) = true →
 ((n == (0 : Int)) = true → RetIs (AV.bool true) [] (r, [])) ∧ ((n == (0 : Int)) = false → RetIs (AV.bool false) [] (r, []))) ∧
 ((k == (4 : Int)) = false →
 ((k == (5 : Int)) = true →
 ((n == (0 : Int)) = true → RetIs (AV.bool true) [] (r, [])) ∧ ((n == (0 : Int)) = false → RetIs (AV.bool false) [] (r, []))) ∧
 ((k == (5 : Int)) = false → RetIs (AV.bool false) [] (r, [])))))))) := by kernel_rfl
theorem y60 (n : Int) (r : AV) : (pureW PA GA XV (tbl []) (itbl []) nAn [] 60 [.int .i64 n] (r, [])) =
((decide (n ≥ (-1152921504606846976 : Int)) = true →
    (decide (n ≤ (1152921504606846976 : Int)) = true → RetIs (AV.bool true) [] (r, [])) ∧
      (decide (n ≤ (1152921504606846976 : Int)) = false → RetIs (AV.bool false) [] (r, []))) ∧
  (decide (n ≥ (-1152921504606846976 : Int)) = false → RetIs (AV.bool false) [] (r, []))) := by kernel_rfl
theorem y41 (k n : Int) (s : List UInt8) (r : AV) : (pureW PA GA XV (tbl [(59, v59), (60, v60), (61, v61), (62, v62)]) (itbl []) nAn [] 41 [.agg [.int .i64 k, .int .i64 n, .str s]] (r, [])) =
(∃ (b : Bool),
  CallIs (some (AV.bool (fdP k n s), [])) (AV.bool b) [] ∧
    (b = true →
        ∃ (b : Bool),
 CallIs (some (AV.bool (inR n), [])) (AV.bool b) [] ∧
 (b = true →
 ((k == (4 : Int)) = true →
 (decide ((↑s.length : Int) > (64 : Int)) = true → RetIs (AV.int IntKind.i64 2) [] (r, [])) ∧
 (decide ((↑s.length : Int) > (64 : Int)) = false →
 ((k == (5 : Int)) = true →
 (decide ((↑s.length : Int) > (32 : Int)) = true → RetIs (AV.int IntKind.i64 2) [] (r, [])) ∧
 (decide ((↑s.length : Int) > (32 : Int)) = false →
 ((k == (4 : Int)) = true →
 ∃ (b : Bool),
 CallIs (some (AV.bool (txP s), [])) (AV.bool b) [] ∧
 (b = true →
 ((k == (5 : Int)) = true →
 ∃ (b : Bool),
 CallIs (some (AV.bool (keP s), [])) (AV.bool b) [] ∧
 (b = true → RetIs (AV.int IntKind.i64 0) [] (r, [])) ∧
 (b = false → RetIs (AV.int IntKind.i64 3) [] (r, []))) ∧
 ((k == (5 : Int)) = false → RetIs (AV.int IntKind.i64 0) [] (r, []))) ∧
 (b = false → RetIs (AV.int IntKind.i64 3) [] (r, []))) ∧
 ((k == (4 : Int)) = false →
 ((k == (5 : Int)) = true →
 ∃ (b : Bool),
 CallIs (some (AV.bool (keP s), [])) (AV.bool b) [] ∧
 (b = true → RetIs (AV.int IntKind.i64 0) [] (r, [])) ∧
 (b = false → RetIs (AV.int IntKind.i64 3) [] (r, []))) ∧
 ((k == (5 : Int)) = false → RetIs (AV.int IntKind.i64 0) [] (r, []))))) ∧
 ((k == (5 : Int)) = false →
 ((k == (4 : Int)) = true →
 ∃ (b : Bool),
 CallIs (some (AV.bool (txP s), [])) (AV.bool b) [] ∧
 (b = true →
 ((k == (5 : Int)) = true →
 ∃ (b : Bool),
 CallIs (some (AV.bool (keP s), [])) (AV.bool b) [] ∧
 (b = true → RetIs (AV.int IntKind.i64 0) [] (r, [])) ∧
 (b = false → RetIs (AV.int IntKind.i64 3) [] (r, []))) ∧
 ((k == (5 : Int)) = false → RetIs (AV.int IntKind.i64 0) [] (r, []))) ∧
 (b = false → RetIs (AV.int IntKind.i64 3) [] (r, []))) ∧
 ((k == (4 : Int)) = false →
 ((k == (5 : Int)) = true →
 ∃ (b : Bool),
 CallIs (some (AV.bool (keP s), [])) (AV.bool b) [] ∧
 (b = true → RetIs (AV.int IntKind.i64 0) [] (r, [])) ∧
 (b = false → RetIs (AV.int IntKind.i64 3) [] (r, []))) ∧
 ((k == (5 : Int)) = false → RetIs (AV.int IntKind.i64 0) [] (r, [])))))) ∧
 ((k == (4 : Int)) = false →
 ((k == (5 : Int)) = true →
 (decide ((↑s.length : Int) > (32 : Int)) = true → RetIs (AV.int IntKind.i64 2) [] (r, [])) ∧
 (decide ((↑s.length : Int) > (32 : Int)) = false →
 ((k == (4 : Int)) = true →
 ∃ (b : Bool),
 CallIs (some (AV.bool (txP s), [])) (AV.bool b) [] ∧
 (b = true →
 ((k == (5 : Int)) = true →
 ∃ (b : Bool),
 CallIs (some (AV.bool (keP s), [])) (AV.bool b) [] ∧
 (b = true → RetIs (AV.int IntKind.i64 0) [] (r, [])) ∧
 (b = false → RetIs (AV.int IntKind.i64 3) [] (r, []))) ∧
 ((k == (5 : Int)) = false → RetIs (AV.int IntKind.i64 0) [] (r, []))) ∧
 (b = false → RetIs (AV.int IntKind.i64 3) [] (r, []))) ∧
 ((k == (4 : Int)) = false →
 ((k == (5 : Int)) = true →
 ∃ (b : Bool),
 CallIs (some (AV.bool (keP s), [])) (AV.bool b) [] ∧
 (b = true → RetIs (AV.int IntKind.i64 0) [] (r, [])) ∧
 (b = false → RetIs (AV.int IntKind.i64 3) [] (r, []))) ∧
 ((k == (5 : Int)) = false → RetIs (AV.int IntKind.i64 0) [] (r, []))))) ∧
 ((k == (5 : Int)) = false →
 ((k == (4 : Int)) = true →
 ∃ (b : Bool),
 CallIs (some (AV.bool (txP s), [])) (AV.bool b) [] ∧
 (b = true →
 ((k == (5 : Int)) = true →
 ∃ (b : Bool),
 CallIs (some (AV.bool (keP s), [])) (AV.bool b) [] ∧
 (b = true → RetIs (AV.int IntKind.i64 0) [] (r, [])) ∧
 (b = false → RetIs (AV.int IntKind.i64 3) [] (r, []))) ∧
 ((k == (5 : Int)) = false → RetIs (AV.int IntKind.i64 0) [] (r, []))) ∧
 (b = false → RetIs (AV.int IntKind.i64 3) [] (r, []))) ∧
 ((k == (4 : Int)) = false →
 ((k == (5 : Int)) = true →
 ∃ (b : Bool),
 CallIs (some (AV.bool (keP s), [])) (AV.bool b) [] ∧
 (b = true → RetIs (AV.int IntKind.i64 0) [] (r, [])) ∧
 (b = false → RetIs (AV.int IntKind.i64 3) [] (r, []))) ∧
 ((k == (5 : Int)) = false → RetIs (AV.int IntKind.i64 0) [] (r, [])))))) ∧
 (b = false → RetIs (AV.int IntKind.i64 2) [] (r, []))) ∧
      (b = false → RetIs (AV.int IntKind.i64 1) [] (r, []))) := by kernel_rfl
theorem y12 (k n : Int) (s : List UInt8) (r : AV) : (pureW PA GA XV (tbl [(41, v41)]) (itbl []) nAn [] 12 [.agg [.int .i64 k, .int .i64 n, .str s]] (r, [])) =
(∃ (n_1 : Int),
  CallIs (some (AV.int IntKind.i64 (ckP k n s), [])) (AV.int IntKind.i64 n_1) [] ∧
    ((n_1 == (0 : Int)) = true → RetIs (AV.bool true) [] (r, [])) ∧ ((n_1 == (0 : Int)) = false → RetIs (AV.bool false) [] (r, []))) := by kernel_rfl
end Go.Abs

namespace Go.Abs
open Go.Proofs Go.Proofs.K17 Go.RowKit
theorem all_no {α : Type} {p : α → Bool} {l : List α} {c : α} (h : c ∈ l) (hp : p c = false) : l.all p = false := by
  rw [← Bool.not_eq_true, List.all_eq_true]
  intro hh
  have := hh _ h
  rw [hp] at this; cases this
theorem q77 (m : Int) (s : List UInt8) (hs : s.length ≤ 1000) : PureOk PA GA XV (tbl []) (itbl []) (a77 m s) [] 77 [.str s, .int .u8 m] (.bool (prP m s), []) := by
  constructor
  rw [y77]
  refine ⟨⟨0, ⟨rfl⟩, ⟨rfl⟩, ⟨Nat.zero_le _, by rw [List.take_zero]; rfl⟩, trivial⟩, fun i hi => ⟨fun lt => ?_, fun ge => ?_⟩⟩
  · have lt := of_decide_eq_true lt
    have hil : i < s.length := by omega
    have hg : s[((i : Int)).toNat]? = some s[i] := by rw [Int.toNat_natCast]; exact List.getElem?_eq_getElem hil
    have no : prC m s[i] = false → RetIs (AV.bool false) [] (AV.bool (prP m s), []) := fun h => retIs_iff.2 (by unfold prP; rw [all_no (List.getElem_mem hil) h])
    refine ⟨by omega, _, hg, fun a => no ?_, fun a => ⟨by omega, _, hg, fun b => no ?_, fun b => ⟨by omega, _, hg, fun c => no ?_, fun c => ⟨by omega, _, hg, fun d => no ?_, fun d => ⟨i + 1, ⟨?_⟩, ⟨rfl⟩, ⟨hil, ?_⟩, by omega⟩⟩⟩⟩⟩
    · unfold prC; rw [a]; rfl
    · unfold prC; rw [a, b]; rfl
    · unfold prC; rw [a, b, c]; rfl
    · unfold prC; rw [a, b, c, d]; rfl
    · rw [wrapN (by omega)]
    · rw [List.take_succ_eq_append_getElem hil, List.all_append, hi.2]
      have : prC m s[i] = true := by unfold prC; rw [a, b, c, d]; rfl
      simp [this]
  · have ge := of_decide_eq_false ge
    have h2 := hi.2
    rw [List.take_of_length_le (by omega)] at h2
    exact retIs_iff.2 (by unfold prP; rw [h2])
theorem q61 (s : List UInt8) : PureOk PA GA XV (tbl [(77, v77)]) (itbl []) nAn [] 61 [.str s] (.bool (txP s), []) := by
  constructor
  rw [y61]
  refine ⟨fun h => ⟨prP 32 s, callIs_iff.2 ?_, fun b => retIs_iff.2 ?_, fun b => retIs_iff.2 ?_⟩, fun h => retIs_iff.2 ?_⟩
  · have h := of_decide_eq_true h
    rw [tb_hit]; simp only [v77]; rw [if_pos (by omega)]
  · have h := of_decide_eq_true h
    unfold txP; rw [b, decide_eq_true (by omega)]; rfl
  · unfold txP; rw [b, Bool.and_false]
  · have h := of_decide_eq_false h
    unfold txP; rw [decide_eq_false (by omega)]; rfl
theorem q62 (s : List UInt8) : PureOk PA GA XV (tbl [(77, v77)]) (itbl []) nAn [] 62 [.str s] (.bool (keP s), []) := by
  constructor
  rw [y62]
  refine ⟨fun e => ⟨fun h => ⟨prP 33 s, callIs_iff.2 ?_, fun b => retIs_iff.2 ?_, fun b => retIs_iff.2 ?_⟩, fun h => retIs_iff.2 ?_⟩, fun e => retIs_iff.2 ?_⟩
  · have h := of_decide_eq_true h
    rw [tb_hit]; simp only [v77]; rw [if_pos (by omega)]
  · have h := of_decide_eq_true h
    have e : s ≠ [] := by simpa using e
    unfold keP; rw [b, decide_eq_true (show s.length ≤ 32 by omega), decide_eq_true e]; rfl
  · unfold keP; rw [b, Bool.and_false]
  · have h := of_decide_eq_false h
    unfold keP; rw [decide_eq_false (show ¬ s.length ≤ 32 by omega), Bool.and_false, Bool.false_and]
  · have e : s = [] := by simpa using e
    subst e; rfl
theorem q59 (k n : Int) (s : List UInt8) : PureOk PA GA XV (tbl []) (itbl []) nAn [] 59 [.agg [.int .i64 k, .int .i64 n, .str s]] (.bool (fdP k n s), []) := by
  constructor
  rw [y59]
  repeat' first
    | apply And.intro
    | intro _
  all_goals refine retIs_iff.2 ?_
  all_goals simp_all [fdP]
theorem q60 (n : Int) : PureOk PA GA XV (tbl []) (itbl []) nAn [] 60 [.int .i64 n] (.bool (inR n), []) := by
  constructor
  rw [y60]
  repeat' first
    | apply And.intro
    | intro _
  all_goals refine retIs_iff.2 ?_
  all_goals simp_all [inR]
  all_goals omega
theorem q41 (k n : Int) (s : List UInt8) : PureOk PA GA XV (tbl [(59, v59), (60, v60), (61, v61), (62, v62)]) (itbl []) nAn [] 41 [.agg [.int .i64 k, .int .i64 n, .str s]] (.int .i64 (ckP k n s), []) := by
  constructor
  rw [y41]
  repeat' first
    | refine ⟨_, callIs_iff.2 rfl, ?_⟩
    | apply And.intro
    | intro _
  all_goals refine retIs_iff.2 ?_
  all_goals simp_all [ckP]
  all_goals omega
theorem q12 (k n : Int) (s : List UInt8) : PureOk PA GA XV (tbl [(41, v41)]) (itbl []) nAn [] 12 [.agg [.int .i64 k, .int .i64 n, .str s]] (.bool (decide (ckP k n s = 0)), []) := by
  constructor
  rw [y12]
  refine ⟨_, callIs_iff.2 rfl, fun h => retIs_iff.2 ?_, fun h => retIs_iff.2 ?_⟩
  · have h : ckP k n s = 0 := by simpa using h
    rw [decide_eq_true h]
  · have h : ckP k n s ≠ 0 := by simpa using h
    rw [decide_eq_false h]
theorem j77 : SpecOk PA GA 77 v77 := spec_of (X := XV) (m := []) mixedA tbl_nil itbl_nil fun args r h => by
  unfold v77 at h
  split at h
  case h_2 => cases h
  split at h
  case isFalse => cases h
  rename_i hc
  injection h with h; subst h
  exact ⟨_, q77 _ _ hc⟩
theorem j61 : SpecOk PA GA 61 v61 := spec_of (X := XV) (m := []) mixedA (tbl_cons j77 tbl_nil) itbl_nil fun args r h => by
  unfold v61 at h
  split at h
  case h_2 => cases h
  injection h with h; subst h
  exact ⟨_, q61 _⟩
theorem j62 : SpecOk PA GA 62 v62 := spec_of (X := XV) (m := []) mixedA (tbl_cons j77 tbl_nil) itbl_nil fun args r h => by
  unfold v62 at h
  split at h
  case h_2 => cases h
  injection h with h; subst h
  exact ⟨_, q62 _⟩
theorem j59 : SpecOk PA GA 59 v59 := spec_of (X := XV) (m := []) mixedA tbl_nil itbl_nil fun args r h => by
  unfold v59 at h
  split at h
  case h_2 => cases h
  injection h with h; subst h
  exact ⟨_, q59 _ _ _⟩
theorem j60 : SpecOk PA GA 60 v60 := spec_of (X := XV) (m := []) mixedA tbl_nil itbl_nil fun args r h => by
  unfold v60 at h
  split at h
  case h_2 => cases h
  injection h with h; subst h
  exact ⟨_, q60 _⟩
theorem j41 : SpecOk PA GA 41 v41 := spec_of (X := XV) (m := []) mixedA (tbl_cons j59 (tbl_cons j60 (tbl_cons j61 (tbl_cons j62 tbl_nil)))) itbl_nil fun args r h => by
  unfold v41 at h
  split at h
  case h_2 => cases h
  injection h with h; subst h
  exact ⟨_, q41 _ _ _⟩
theorem j12 : SpecOk PA GA 12 v12 := spec_of (X := XV) (m := []) mixedA (tbl_cons j41 tbl_nil) itbl_nil fun args r h => by
  unfold v12 at h
  split at h
  case h_2 => cases h
  injection h with h; subst h
  exact ⟨_, q12 _ _ _⟩
end Go.Abs

namespace Go.Abs
open Go.Proofs Go.Proofs.K17 Go.RowKit
structure Ord3 {α : Type} (f : α → α → Int) : Prop where
  eq : ∀ a b, f a b = 0 ↔ a = b
  neg : ∀ a b, f b a = - f a b
  trans : ∀ a b c, f a b < 0 → f b c < 0 → f a c < 0
theorem ord_int : Ord3 Lib.compareInt := by
  refine ⟨fun a b => ?_, fun a b => ?_, fun a b c h1 h2 => ?_⟩
  · unfold Lib.compareInt; split
    · omega
    · split <;> omega
  · unfold Lib.compareInt; split <;> split <;> (try split) <;> (try split) <;> omega
  · unfold Lib.compareInt at *
    split at h1 <;> split at h2
    · rw [if_pos (by omega)]; omega
    · split at h2 <;> omega
    · split at h1 <;> omega
    · split at h1 <;> omega
theorem u8_lt {a b : UInt8} : a < b ↔ a.toNat < b.toNat := UInt8.lt_iff_toNat_lt
theorem cb_eq : ∀ a b, Lib.compareBytes a b = 0 ↔ a = b
  | [], [] => by simp [Lib.compareBytes]
  | [], _ :: _ => by simp [Lib.compareBytes]
  | _ :: _, [] => by simp [Lib.compareBytes]
  | x :: a, y :: b => by
    unfold Lib.compareBytes
    by_cases h1 : x < y
    · rw [if_pos h1]
      refine ⟨fun h => by omega, fun h => ?_⟩
      injection h with h _; subst h; exact absurd h1 (UInt8.lt_irrefl x)
    · rw [if_neg h1]
      by_cases h2 : y < x
      · rw [if_pos h2]
        refine ⟨fun h => by omega, fun h => ?_⟩
        injection h with h _; subst h; exact absurd h2 (UInt8.lt_irrefl x)
      · rw [if_neg h2, cb_eq a b]
        rw [u8_lt] at h1 h2
        have e : x = y := UInt8.toNat_inj.1 (by omega)
        subst e
        simp
theorem cb_neg : ∀ a b, Lib.compareBytes b a = - Lib.compareBytes a b
  | [], [] => by simp [Lib.compareBytes]
  | [], _ :: _ => by simp [Lib.compareBytes]
  | _ :: _, [] => by simp [Lib.compareBytes]
  | x :: a, y :: b => by
    unfold Lib.compareBytes
    rw [cb_neg a b]
    simp only [u8_lt]
    split <;> split <;> (try split) <;> (try split) <;> omega
theorem cb_trans : ∀ a b c, Lib.compareBytes a b < 0 → Lib.compareBytes b c < 0 → Lib.compareBytes a c < 0
  | [], [], c, h1, _ => by simp [Lib.compareBytes] at h1
  | [], _ :: _, [], _, h2 => by simp [Lib.compareBytes] at h2
  | [], _ :: _, _ :: _, _, _ => by simp [Lib.compareBytes]
  | _ :: _, [], _, h1, _ => by simp [Lib.compareBytes] at h1
  | _ :: _, _ :: _, [], _, h2 => by simp [Lib.compareBytes] at h2
  | x :: a, y :: b, z :: c, h1, h2 => by
    have ih := cb_trans a b c
    unfold Lib.compareBytes at h1 h2 ⊢
    simp only [u8_lt] at h1 h2 ⊢
    by_cases h3 : x.toNat < z.toNat
    · rw [if_pos h3]; omega
    · rw [if_neg h3]
      by_cases h4 : x.toNat < y.toNat
      · rw [if_neg (by omega), if_pos (by omega)] at h2; omega
      · rw [if_neg h4] at h1
        by_cases h5 : y.toNat < x.toNat
        · rw [if_pos h5] at h1; omega
        · rw [if_neg h5] at h1
          rw [if_neg (by omega)] at h2
          by_cases h6 : z.toNat < y.toNat
          · rw [if_pos h6] at h2; omega
          · rw [if_neg h6] at h2
            rw [if_neg (by omega)]
            exact ih h1 h2
theorem ord_bytes : Ord3 Lib.compareBytes := ⟨cb_eq, cb_neg, cb_trans⟩
def lex {α β : Type} (f : α → α → Int) (g : β → β → Int) (p q : α × β) : Int := if f p.1 q.1 = 0 then g p.2 q.2 else f p.1 q.1
theorem ord_lex {α β : Type} {f : α → α → Int} {g : β → β → Int} (hf : Ord3 f) (hg : Ord3 g) : Ord3 (lex f g) := by
  refine ⟨fun a b => ?_, fun a b => ?_, fun a b c h1 h2 => ?_⟩
  · obtain ⟨a1, a2⟩ := a
    obtain ⟨b1, b2⟩ := b
    unfold lex
    simp only [Prod.mk.injEq]
    split
    · rename_i h
      rw [hg.eq]
      exact ⟨fun h' => ⟨(hf.eq _ _).1 h, h'⟩, fun h' => h'.2⟩
    · rename_i h
      exact ⟨fun h' => absurd h' h, fun h' => absurd ((hf.eq _ _).2 h'.1) h⟩
  · unfold lex
    rw [hf.neg a.1 b.1, hg.neg a.2 b.2]
    split <;> split <;> omega
  · unfold lex at *
    by_cases h3 : f a.1 b.1 = 0
    · rw [if_pos h3] at h1
      have e := (hf.eq _ _).1 h3
      rw [e]
      by_cases h4 : f b.1 c.1 = 0
      · rw [if_pos h4] at h2 ⊢
        exact hg.trans _ _ _ h1 h2
      · rw [if_neg h4] at h2 ⊢
        exact h2
    · rw [if_neg h3] at h1
      by_cases h4 : f b.1 c.1 = 0
      · have e := (hf.eq _ _).1 h4
        rw [← e, if_neg h3]; exact h1
      · rw [if_neg h4] at h2
        have := hf.trans _ _ _ h1 h2
        rw [if_neg (by omega)]; exact this
abbrev KeyT := List UInt8 × Int × Int × Int × List UInt8
def kap (x : ItI) : KeyT := (x.src, x.q, x.k, x.n, x.s)
def cmpK : KeyT → KeyT → Int := lex Lib.compareBytes (lex Lib.compareInt (lex Lib.compareInt (lex Lib.compareInt Lib.compareBytes)))
theorem ordK : Ord3 cmpK := ord_lex ord_bytes (ord_lex ord_int (ord_lex ord_int (ord_lex ord_int ord_bytes)))
theorem cmpI_kap (a b : ItI) : cmpI a b = cmpK (kap a) (kap b) := by
  unfold cmpI cmpV or3 cmpK lex kap
  rfl
theorem cmpK_irr (k : KeyT) : ¬ cmpK k k < 0 := by
  have := (ordK.eq k k).2 rfl
  omega
def ky (f : Bool) (x : ItI) : KeyT := kap (markI f x)
theorem ky_setC (f : Bool) (x : ItI) (c : Int) : ky f (x.setC c) = ky f x := by cases f <;> rfl
theorem ky_mark (f : Bool) (x : ItI) : ky f (markI f x) = ky f x := by cases f <;> rfl
theorem mark_eq {f : Bool} {x y : ItI} : markI f x = markI f y ↔ ky f x = ky f y := by
  refine ⟨fun h => by unfold ky; rw [h], fun h => ?_⟩
  cases f
  · unfold ky kap markI at h
    simp only [Bool.false_eq_true, if_false, Prod.mk.injEq] at h
    unfold markI
    simp [h]
  · unfold ky kap markI at h
    simp only [if_true, Prod.mk.injEq] at h
    unfold markI
    simp [h]
/-- marks stripped -/
def Nrm (f : Bool) (x : ItI) : Prop := (markI f x).setC x.c = x
theorem nrm_mark (f : Bool) (x : ItI) (c : Int) : Nrm f ((markI f x).setC c) := by cases f <;> rfl
theorem nrm_setC {f : Bool} {x : ItI} (h : Nrm f x) (c : Int) : Nrm f (x.setC c) := by
  unfold Nrm at *
  cases f
  · have h1 : ([] : List UInt8) = x.src := congrArg ItI.src h
    have h2 : (0 : Int) = x.q := congrArg ItI.q h
    unfold markI
    simp [ItI.setC, ← h1, ← h2]
  · rfl
/-- sums -/
def sm (g : ItI → Int) : List ItI → Int
  | [] => 0
  | x :: l => g x + sm g l
theorem sm_append (g : ItI → Int) : ∀ a b, sm g (a ++ b) = sm g a + sm g b
  | [], b => by simp [sm]
  | x :: a, b => by simp only [List.cons_append, sm, sm_append g a b]; omega
theorem sm_perm (g : ItI → Int) {a b : List ItI} (h : a.Perm b) : sm g a = sm g b := by
  induction h with
  | nil => rfl
  | cons x _ ih => simp only [sm, ih]
  | swap x y l => simp only [sm]; omega
  | trans _ _ h1 h2 => omega
def cntG (f : Bool) (k : KeyT) (x : ItI) : Int := if ky f x = k then x.c else 0
abbrev cnt (f : Bool) (l : List ItI) (k : KeyT) : Int := sm (cntG f k) l
structure Srt (f : Bool) (l : List ItI) : Prop where
  asc : l.Pairwise fun a b => cmpK (ky f a) (ky f b) < 0
  nrm : ∀ x ∈ l, Nrm f x ∧ x.c ≠ 0 ∧ iOk x.c
theorem Srt.tail {f : Bool} {x : ItI} {l : List ItI} (h : Srt f (x :: l)) : Srt f l := ⟨(List.pairwise_cons.1 h.asc).2, fun y hy => h.nrm y (by simp [hy])⟩
theorem Srt.head {f : Bool} {x : ItI} {l : List ItI} (h : Srt f (x :: l)) : ∀ y ∈ l, cmpK (ky f x) (ky f y) < 0 := (List.pairwise_cons.1 h.asc).1
theorem srt_nil (f : Bool) : Srt f [] := ⟨List.Pairwise.nil, fun x h => by cases h⟩
theorem cnt_none {f : Bool} {k : KeyT} : ∀ {l : List ItI}, (∀ x ∈ l, ky f x ≠ k) → cnt f l k = 0
  | [], _ => rfl
  | x :: l, h => by
    have h1 := h x (by simp)
    have h2 := cnt_none (l := l) fun y hy => h y (by simp [hy])
    unfold cnt at h2 ⊢
    simp only [sm, h2, cntG, if_neg h1]; rfl
theorem cnt_lt {f : Bool} {k : KeyT} {l : List ItI} (h : ∀ x ∈ l, cmpK k (ky f x) < 0) : cnt f l k = 0 := cnt_none fun x hx e => by
  have := h x hx
  rw [e] at this; exact cmpK_irr k this
theorem cnt_head {f : Bool} {x : ItI} {l : List ItI} (h : Srt f (x :: l)) : cnt f (x :: l) (ky f x) = x.c := by
  have := cnt_lt h.head
  unfold cnt at this ⊢
  simp only [sm, this, cntG, if_true]; omega
theorem cnt_cons_ne {f : Bool} {x : ItI} {l : List ItI} {k : KeyT} (h : ky f x ≠ k) : cnt f (x :: l) k = cnt f l k := by
  unfold cnt
  simp only [sm, cntG, if_neg h]; omega
theorem cnt_iOk {f : Bool} : ∀ {l : List ItI}, Srt f l → ∀ k, iOk (cnt f l k)
  | [], _, k => by unfold cnt sm iOk; omega
  | x :: l, h, k => by
    by_cases e : ky f x = k
    · subst e; rw [cnt_head h]; exact (h.nrm x (by simp)).2.2
    · rw [cnt_cons_ne e]; exact cnt_iOk h.tail k
end Go.Abs

namespace Go.Abs
open Go.Proofs Go.Proofs.K17 Go.RowKit
theorem w64_in {x : Int} (h : iOk x) : wrap64 x = x := Go.Proofs.K17.w64 h.1 (by have := h.2; omega)
theorem w64_0 : wrap64 0 = 0 := w64_in (by unfold iOk; omega)
theorem w64_iOk (x : Int) : iOk (wrap64 x) := by have := w64_range x; unfold iOk; omega
theorem w64_add (a b : Int) : wrap64 (wrap64 a + b) = wrap64 (a + b) := w64_congr (by have := w64_mod a; omega)
theorem addI_no {f : Bool} {m : ItI} {c : Int} : ∀ {l : List ItI}, addI f m c l = none → ∀ y ∈ l, markI f y ≠ m
  | [], _, y, hy => by cases hy
  | x :: l, h, y, hy => by
    unfold addI at h
    split at h
    · cases h
    · rename_i hx
      rcases List.mem_cons.1 hy with rfl | hy
      · exact hx
      · refine addI_no (c := c) (l := l) ?_ y hy
        cases hl : addI f m c l with
        | none => rfl
        | some t => rw [hl] at h; cases h
theorem addI_ok {f : Bool} {m : ItI} {c : Int} (hm : ∃ z, m = markI f z) : ∀ {l l' : List ItI}, Srt f l → addI f m c l = some l' →
    Srt f l' ∧ (∀ k, cnt f l' k = wrap64 (cnt f l k + if kap m = k then c else 0)) ∧ ∀ y ∈ l', ∃ z ∈ l, ky f y = ky f z
  | [], l', _, h => by cases h
  | x :: l, l', hs, h => by
    obtain ⟨z, rfl⟩ := hm
    unfold addI at h
    split at h
    · rename_i hx
      have hk : ky f x = kap (markI f z) := mark_eq.1 hx
      have other : ∀ k, ky f x ≠ k → cnt f l k = wrap64 (cnt f (x :: l) k + if kap (markI f z) = k then c else 0) := fun k hne => by
        rw [cnt_cons_ne hne, if_neg (by rw [← hk]; exact hne), Int.add_zero, w64_in (cnt_iOk hs.tail k)]
      injection h with h; subst h
      split
      · rename_i h0
        refine ⟨hs.tail, fun k => ?_, fun y hy => ⟨y, by simp [hy], rfl⟩⟩
        by_cases e : ky f x = k
        · subst e
          rw [cnt_head hs, cnt_lt hs.head, if_pos hk.symm, h0]
        · exact other k e
      · rename_i h0
        have hs' : Srt f (x.setC (wrap64 (x.c + c)) :: l) := by
          refine ⟨List.pairwise_cons.2 ⟨fun y hy => by rw [ky_setC]; exact hs.head y hy, hs.tail.asc⟩, fun y hy => ?_⟩
          rcases List.mem_cons.1 hy with rfl | hy
          · exact ⟨nrm_setC (hs.nrm x (by simp)).1 _, h0, w64_iOk _⟩
          · exact hs.nrm y (by simp [hy])
        refine ⟨hs', fun k => ?_, fun y hy => ?_⟩
        · by_cases e : ky f x = k
          · subst e
            have := cnt_head hs'
            rw [ky_setC] at this
            rw [this, cnt_head hs, if_pos hk.symm]; rfl
          · rw [cnt_cons_ne (by rw [ky_setC]; exact e)]; exact other k e
        · rcases List.mem_cons.1 hy with rfl | hy
          · exact ⟨x, by simp, ky_setC _ _ _⟩
          · exact ⟨y, by simp [hy], rfl⟩
    · rename_i hx
      cases hl : addI f (markI f z) c l with
      | none => rw [hl] at h; cases h
      | some t =>
        rw [hl] at h
        injection h with h; subst h
        obtain ⟨h1, h2, h3⟩ := addI_ok ⟨z, rfl⟩ hs.tail hl
        refine ⟨⟨List.pairwise_cons.2 ⟨fun y hy => ?_, h1.asc⟩, fun y hy => ?_⟩, fun k => ?_, fun y hy => ?_⟩
        · obtain ⟨w, hw, e⟩ := h3 y hy
          rw [e]; exact hs.head w hw
        · rcases List.mem_cons.1 hy with rfl | hy
          · exact hs.nrm y (by simp)
          · exact h1.nrm y hy
        · by_cases e : ky f x = k
          · subst e
            have : cnt f t (ky f x) = 0 := cnt_lt fun y hy => by
              obtain ⟨w, hw, e⟩ := h3 y hy
              rw [e]; exact hs.head w hw
            have hne : ¬ kap (markI f z) = ky f x := fun e => hx (mark_eq.2 e.symm)
            rw [if_neg hne, cnt_head hs, Int.add_zero, w64_in (hs.nrm x (by simp)).2.2]
            unfold cnt at this ⊢
            simp only [sm, this, cntG, if_true]; omega
          · rw [cnt_cons_ne e, cnt_cons_ne e]; exact h2 k
        · rcases List.mem_cons.1 hy with rfl | hy
          · exact ⟨y, by simp, rfl⟩
          · obtain ⟨w, hw, e⟩ := h3 y hy
            exact ⟨w, by simp [hw], e⟩
theorem putI_mem {f : Bool} {m : ItI} {c : Int} : ∀ {l : List ItI} {y : ItI}, y ∈ putI f m c l → y = m.setC c ∨ y ∈ l
  | [], y, h => by
    unfold putI at h
    exact .inl (List.mem_singleton.1 h)
  | x :: l, y, h => by
    unfold putI at h
    split at h
    · rcases List.mem_cons.1 h with h | h
      · exact .inl h
      · exact .inr h
    · rcases List.mem_cons.1 h with h | h
      · exact .inr (by simp [h])
      · rcases putI_mem h with h | h
        · exact .inl h
        · exact .inr (by simp [h])
theorem putI_ok {f : Bool} {z : ItI} {c : Int} (hc : c ≠ 0) (hi : iOk c) : ∀ {l : List ItI}, Srt f l → (∀ y ∈ l, markI f y ≠ markI f z) →
    Srt f (putI f (markI f z) c l) ∧ ∀ k, cnt f (putI f (markI f z) c l) k = wrap64 (cnt f l k + if ky f z = k then c else 0)
  | [], _, _ => by
    have hs : Srt f [(markI f z).setC c] := ⟨List.pairwise_singleton _ _, fun y hy => by obtain rfl := List.mem_singleton.1 hy; exact ⟨nrm_mark f z c, hc, hi⟩⟩
    refine ⟨hs, fun k => ?_⟩
    show cnt f [(markI f z).setC c] k = _
    unfold cnt
    simp only [sm, cntG, ky_setC, ky_mark]
    split
    · show c + 0 = _
      rw [Int.add_zero, Int.zero_add, w64_in hi]
    · exact w64_0.symm
  | x :: l, hs, hne => by
    have hx := hne x (by simp)
    have hkx : ky f x ≠ ky f z := fun e => hx (mark_eq.2 e)
    have hcm : cmpI (markI f x) (markI f z) = cmpK (ky f x) (ky f z) := cmpI_kap _ _
    have hn0 : cmpK (ky f x) (ky f z) ≠ 0 := fun h0 => hkx ((ordK.eq _ _).1 h0)
    unfold putI
    rw [hcm]
    split
    · rename_i hgt
      have hlt : cmpK (ky f z) (ky f x) < 0 := by rw [ordK.neg (ky f x)]; omega
      have hs' : Srt f ((markI f z).setC c :: x :: l) := by
        refine ⟨List.pairwise_cons.2 ⟨fun y hy => ?_, hs.asc⟩, fun y hy => ?_⟩
        · rw [ky_setC, ky_mark]
          rcases List.mem_cons.1 hy with rfl | hy
          · exact hlt
          · exact ordK.trans _ _ _ hlt (hs.head y hy)
        · rcases List.mem_cons.1 hy with rfl | hy
          · exact ⟨nrm_mark f z c, hc, hi⟩
          · exact hs.nrm y hy
      refine ⟨hs', fun k => ?_⟩
      by_cases e : ky f z = k
      · subst e
        have h1 := cnt_head hs'
        rw [ky_setC, ky_mark] at h1
        have h2 : cnt f (x :: l) (ky f z) = 0 := cnt_lt fun y hy => by
          rcases List.mem_cons.1 hy with rfl | hy
          · exact hlt
          · exact ordK.trans _ _ _ hlt (hs.head y hy)
        rw [h1, h2, if_pos rfl, Int.zero_add, w64_in hi]; rfl
      · rw [cnt_cons_ne (by rw [ky_setC, ky_mark]; exact e), if_neg e, Int.add_zero, w64_in (cnt_iOk hs k)]
    · rename_i hgt
      obtain ⟨h1, h2⟩ := putI_ok hc hi hs.tail fun y hy => hne y (by simp [hy])
      have hlt : cmpK (ky f x) (ky f z) < 0 := by omega
      have hs' : Srt f (x :: putI f (markI f z) c l) := by
        refine ⟨List.pairwise_cons.2 ⟨fun y hy => ?_, h1.asc⟩, fun y hy => ?_⟩
        · rcases putI_mem hy with rfl | hy
          · rw [ky_setC, ky_mark]; exact hlt
          · exact hs.head y hy
        · rcases List.mem_cons.1 hy with rfl | hy
          · exact hs.nrm y (by simp)
          · exact h1.nrm y hy
      refine ⟨hs', fun k => ?_⟩
      by_cases e : ky f x = k
      · subst e
        rw [cnt_head hs', cnt_head hs, if_neg (Ne.symm hkx), Int.add_zero, w64_in (hs.nrm x (by simp)).2.2]
      · rw [cnt_cons_ne e, cnt_cons_ne e]; exact h2 k
theorem insI_ok {f : Bool} {l : List ItI} (hs : Srt f l) {x : ItI} (hc : x.c ≠ 0) (hi : iOk x.c) : Srt f (insI f l x) ∧ ∀ k, cnt f (insI f l x) k = wrap64 (cnt f l k + cntG f k x) := by
  unfold insI
  cases ha : addI f (markI f x) x.c l with
  | some l' =>
    obtain ⟨h1, h2, _⟩ := addI_ok ⟨x, rfl⟩ hs ha
    exact ⟨h1, h2⟩
  | none => exact putI_ok hc hi hs (addI_no ha)
/-- what a state is of a list -/
def gT (x : ItI) : Int := x.n * x.c
def gB (k : Int) (x : ItI) : Int := if idx x.n = k then x.c else 0
structure StOf (fam : Fam) (s : StI) (L : List ItI) : Prop where
  n : s.n = wrap64 (sm ItI.c L)
  w : (fam = .sum → s.h = whi (sm gT L) ∧ s.l = wlo (sm gT L)) ∧ (fam ≠ .sum → s.h = 0 ∧ s.l = 0)
  i : (∀ f, fam = .keep f → Srt f s.its ∧ ∀ k, cnt f s.its k = wrap64 (cnt f L k)) ∧ ((∀ f, fam ≠ .keep f) → s.its = [])
  b : (fam = .smp → Asc s.bks ∧ WfB s.bks ∧ ∀ k, tot s.bks k = wrap64 (sm (gB k) L)) ∧ (fam ≠ .smp → s.bks = [])
structure Eqv (L M : List ItI) : Prop where
  n : sm ItI.c L = sm ItI.c M
  t : sm gT L = sm gT M
  c : ∀ f k, cnt f L k = cnt f M k
  b : ∀ k, sm (gB k) L = sm (gB k) M
theorem Eqv.perm {L M : List ItI} (h : L.Perm M) : Eqv L M := ⟨sm_perm _ h, sm_perm _ h, fun _ _ => sm_perm _ h, fun _ => sm_perm _ h⟩
theorem Eqv.refl (L : List ItI) : Eqv L L := .perm (.refl L)
theorem StOf.eqv {fam : Fam} {s : StI} {L M : List ItI} (h : StOf fam s L) (e : Eqv L M) : StOf fam s M :=
  ⟨by rw [h.n, e.n], ⟨fun hf => by rw [← e.t]; exact h.w.1 hf, h.w.2⟩, ⟨fun f hf => ⟨(h.i.1 f hf).1, fun k => by rw [(h.i.1 f hf).2, e.c]⟩, h.i.2⟩, ⟨fun hf => ⟨(h.b.1 hf).1, (h.b.1 hf).2.1, fun k => by rw [(h.b.1 hf).2.2, e.b]⟩, h.b.2⟩⟩
theorem asc_nil : Asc [] := ⟨List.Pairwise.nil, fun x h => by cases h⟩
theorem stOf_z (fam : Fam) : StOf fam StI.z [] := by
  refine ⟨w64_0.symm, ⟨fun _ => ⟨whi0.symm, rfl⟩, fun _ => ⟨rfl, rfl⟩⟩, ⟨fun f _ => ⟨srt_nil f, fun k => w64_0.symm⟩, fun _ => rfl⟩, ⟨fun _ => ⟨asc_nil, nil_wf, fun k => w64_0.symm⟩, fun _ => rfl⟩⟩
theorem sm_snoc (g : ItI → Int) (L : List ItI) (x : ItI) : sm g (L ++ [x]) = sm g L + g x := by
  rw [sm_append]; show _ + (g x + 0) = _; omega
end Go.Abs

namespace Go.Abs
open Go.Proofs Go.Proofs.K17 Go.RowKit
theorem g0 {x : ItI} (h : x.c = 0) : gT x = 0 ∧ (∀ f k, cntG f k x = 0) ∧ ∀ k, gB k x = 0 := by
  refine ⟨by unfold gT; rw [h, Int.mul_zero], fun f k => ?_, fun k => ?_⟩
  · unfold cntG; rw [h]; split <;> rfl
  · unfold gB; rw [h]; split <;> rfl
theorem eqv_zero {L : List ItI} {x : ItI} (h : x.c = 0) : Eqv L (L ++ [x]) := by
  obtain ⟨h1, h2, h3⟩ := g0 h
  refine ⟨?_, ?_, fun f k => ?_, fun k => ?_⟩
  · rw [sm_snoc, h, Int.add_zero]
  · rw [sm_snoc, h1, Int.add_zero]
  · show _ = sm _ _; rw [sm_snoc, h2, Int.add_zero]
  · rw [sm_snoc, h3, Int.add_zero]
theorem sg_w {s : StI} {T : Int} (h : s.h = whi T ∧ s.l = wlo T) : wv s.h s.l = sg T := by rw [h.1, h.2, wv_sg]
theorem whi_sg (x y : Int) : whi (sg x + y) = whi (x + y) := whi_congr (by have := sg_mod x; omega)
theorem wlo_sg (x y : Int) : wlo (sg x + y) = wlo (x + y) := wlo_congr (by have := sg_mod x; omega)
theorem stOf_put {fam : Fam} {s : StI} {L : List ItI} (h : StOf fam s L) {x : ItI} (hx : itOk x) (hc : x.c ≠ 0) : StOf fam (putP fam s x) (L ++ [x]) := by
  have hn : ∀ s' : StI, s'.n = wrap64 (s.n + x.c) → s'.n = wrap64 (sm ItI.c (L ++ [x])) := fun s' e => by rw [e, h.n, w64_add, sm_snoc]
  cases fam with
  | cnt => exact ⟨hn _ rfl, ⟨fun e => (nomatch e), fun _ => ⟨rfl, rfl⟩⟩, ⟨fun f e => (nomatch e), fun _ => rfl⟩, ⟨fun e => (nomatch e), fun _ => rfl⟩⟩
  | sum =>
    refine ⟨hn _ rfl, ⟨fun _ => ?_, fun e => absurd rfl e⟩, ⟨fun f e => (nomatch e), fun _ => rfl⟩, ⟨fun e => (nomatch e), fun _ => rfl⟩⟩
    have e := sg_w (h.w.1 rfl)
    show whi (wv s.h s.l + x.n * x.c) = _ ∧ wlo (wv s.h s.l + x.n * x.c) = _
    rw [e, whi_sg, wlo_sg, sm_snoc]
    exact ⟨rfl, rfl⟩
  | smp =>
    refine ⟨hn _ rfl, ⟨fun e => (nomatch e), fun _ => ⟨rfl, rfl⟩⟩, ⟨fun f e => (nomatch e), fun _ => rfl⟩, ⟨fun _ => ?_, fun e => absurd rfl e⟩⟩
    obtain ⟨b1, b2, b3⟩ := h.b.1 rfl
    obtain ⟨n1, n2, n3⟩ := norm_ok (one_wf hx b2)
    refine ⟨n1, n2, fun k => ?_⟩
    show tot (normB (s.bks ++ [(idx x.n, x.c)])) k = _
    rw [n3, tot_snoc, sm_snoc, b3]
    unfold gB
    split
    · rw [w64_add]
    · rw [Int.add_zero]
  | keep f =>
    refine ⟨hn _ rfl, ⟨fun e => (nomatch e), fun _ => ⟨rfl, rfl⟩⟩, ⟨fun f' e => ?_, fun e => absurd rfl (e f)⟩, ⟨fun e => (nomatch e), fun _ => rfl⟩⟩
    injection e with e; subst e
    obtain ⟨i1, i2⟩ := h.i.1 f rfl
    obtain ⟨g1, g2⟩ := insI_ok i1 hc hx.2
    refine ⟨g1, fun k => ?_⟩
    show cnt f (insI f s.its x) k = wrap64 (sm _ _)
    rw [g2, i2, w64_add, sm_snoc]
theorem stOf_add {op : List UInt8} {fam : Fam} (hf : famO op = some fam) {s : StI} {L : List ItI} (h : StOf fam s L) {x : ItI} (hx : itOk x) : StOf fam (addP op s x) (L ++ [x]) := by
  unfold addP
  rw [hf]
  simp only
  split
  · rename_i h0; exact h.eqv (eqv_zero h0)
  · rename_i h0; exact stOf_put h hx h0
theorem stOf_fold {op : List UInt8} {fam : Fam} (hf : famO op = some fam) : ∀ {l : List ItI} {s : StI} {L : List ItI}, StOf fam s L → (∀ x ∈ l, itOk x) → StOf fam (l.foldl (addP op) s) (L ++ l)
  | [], s, L, h, _ => by rw [List.append_nil]; exact h
  | x :: l, s, L, h, hx => by
    have := stOf_fold hf (l := l) (stOf_add hf h (hx x (by simp))) fun y hy => hx y (by simp [hy])
    rw [List.append_assoc] at this
    exact this
theorem stOf_of {op : List UInt8} {fam : Fam} (hf : famO op = some fam) {l : List ItI} (hx : ∀ x ∈ l, itOk x) : StOf fam (ofP op l) l := by
  have := stOf_fold hf (stOf_z fam) hx
  rw [List.nil_append] at this
  exact this
theorem cnt_mem {f : Bool} {k : KeyT} {L : List ItI} (h : cnt f L k ≠ 0) : ∃ x ∈ L, ky f x = k :=
  Classical.byContradiction fun hn => h (cnt_none fun x hx e => hn ⟨x, hx, e⟩)
theorem srt_mem {f : Bool} : ∀ {l : List ItI}, Srt f l → ∀ {x : ItI}, x ∈ l → cnt f l (ky f x) = x.c
  | y :: l, h, x, hx => by
    rcases List.mem_cons.1 hx with rfl | hx
    · exact cnt_head h
    · rw [cnt_cons_ne fun e => ?_]
      · exact srt_mem h.tail hx
      · have := h.head x hx
        rw [e] at this; exact cmpK_irr _ this
/-! laws of Merge -/
end Go.Abs

namespace Go.Abs
open Go.Proofs Go.Proofs.K17 Go.Proofs.D17 Go.RowKit
def smI (x : ItI) : Bool := decide (x.s.length ≤ 100) && decide (x.src.length ≤ 100)
def smallP (l : List ItI) : Bool := l.all smI && decide (l.length ≤ 40)
def v21 : Spec := fun args => match args with
  | [.sl sz es _] => match unL unI es with
    | some l => if (sz = 6 ∨ l = []) ∧ l.length ≤ maxLen then some (.bool (smallP l), []) else none
    | none => none
  | _ => none
def nuI (kind : Int) (x : ItI) : Bool := x.c == 1 && x.k == kind && decide (ckP x.k x.n x.s = 0)
def nuP (kind : Int) (l : List ItI) : Bool := l.all (nuI kind) && smallP l && (kind == 2 || kind == 3)
def v8 : Spec := fun args => match args with
  | [.int .i64 kind, .sl sz es _] => match unL unI es with
    | some l => if (sz = 6 ∨ l = []) ∧ l.length ≤ maxLen then some (.bool (nuP kind l), []) else none
    | none => none
  | _ => none
def v36 : Spec := fun args => match args with
  | [.int .i64 n] => some (valA 2 n [], [])
  | _ => none
def okI (x : ItI) : Prop := itOk x ∧ iOk x.k ∧ x.s.length ≤ 100
instance (x : ItI) : Decidable (okI x) := inferInstanceAs (Decidable (_ ∧ _ ∧ _))
def v33 : Spec := fun args => match args with
  | [.str op, .int .i64 kind, .sl sz es _] => match unL unI es with
    | some l => if (sz = 6 ∨ l = []) ∧ l.length ≤ 100 ∧ ∀ x ∈ l, okI x then some (resP op 0 kind [⟨0, ofP op l⟩] 0, []) else none
    | none => none
  | _ => none
/-- the number with this rank -/
def lessN (l : List ItI) (n : Int) : Nat := (l.filter fun y => decide (y.n < n)).length
def sameN (l : List ItI) (n : Int) : Nat := (l.filter fun y => decide (y.n = n)).length
def rankI (l : List ItI) (r : Int) (x : ItI) : Bool := decide ((lessN l x.n : Int) < r) && decide (r ≤ lessN l x.n + sameN l x.n)
def rankP (l : List ItI) (r : Int) : Int := match l.find? (rankI l r) with
  | some x => x.n
  | none => 0
def v11 : Spec := fun args => match args with
  | [.sl sz es _, .int .i64 r] => match unL unI es with
    | some l => if (sz = 6 ∨ l = []) ∧ l.length ≤ 1000 then some (.int .i64 (rankP l r), []) else none
    | none => none
  | _ => none
def a21 (l : List ItI) : Anns := ⟨fun k => if k = 2 then some { α := Nat, slots := [0, 3], nb := 0, vals := fun i => [.sl 6 (itsL l) .no, .int .i64 i], sS := fun _ => ⟨[], []⟩, I := fun i => i ≤ l.length ∧ (l.take i).all smI = true, μ := fun i => l.length - i } else none, nA⟩
def a8z (kind : Int) (l : List ItI) : Anns := ⟨fun k => if k = 2 then some { α := Nat, slots := [0, 1, 5], nb := 0, vals := fun i => [.int .i64 kind, .sl 6 (itsL l) .no, .int .i64 i], sS := fun _ => ⟨[], []⟩, I := fun i => i ≤ l.length ∧ (l.take i).all (nuI kind) = true, μ := fun i => l.length - i } else none, nA⟩
def a11z (l : List ItI) (r : Int) : Anns := ⟨fun k => if k = 2 then some { α := Nat, slots := [0, 1, 5], nb := 0, vals := fun i => [.sl 6 (itsL l) .no, .int .i64 r, .int .i64 i], sS := fun _ => ⟨[], []⟩, I := fun i => i ≤ l.length ∧ ∀ x ∈ l.take i, rankI l r x = false, μ := fun i => l.length - i }
  else if k = 6 then some { α := Nat × ItI × Nat, slots := [0, 1, 5, 6, 7, 8], nb := 0, vals := fun p => [.sl 6 (itsL l) .no, .int .i64 r, .int .i64 p.1, .int .i64 (lessN (l.take p.2.2) p.2.1.n), .int .i64 (sameN (l.take p.2.2) p.2.1.n), .int .i64 p.2.2], sS := fun _ => ⟨[], []⟩, I := fun p => l[p.1]? = some p.2.1 ∧ p.2.2 ≤ l.length, μ := fun p => l.length - p.2.2, link := some fun T p => T[5]? = some (.int .i64 p.1) } else none, nA⟩
def XU : Shapes := fun f => match f with
  | 7 => some (.val (.one (.is (.bool true))), none)
  | 12 | 21 | 8 => some shB
  | 33 | 36 | 13 | 9 => some shV
  | 10 => some shSt
  | 11 | 35 => some shI
  | 2000026 => some shV
  | f => XN f
end Go.Abs

namespace Go.Abs
open Go.Proofs Go.Proofs.K17 Go.Proofs.D17 Go.RowKit
theorem y21 (l : List ItI) (r : AV) : (pureW PA GA XU (tbl []) (itbl []) (a21 l) [] 21 [.sl 6 (itsL l) .no] (r, [])) =
((∃ (y : Nat),
    ValsAre [.sl 6 (itsL l) .no, .int .i64 0] [.sl 6 (itsL l) .no, .int .i64 (↑y : Int)] ∧
      StIs { boxes := [], live := [] } { boxes := [], live := [] } ∧ (y ≤ l.length ∧ (List.take y l).all smI = true) ∧ True) ∧
  ∀ (x : Nat),
    x ≤ l.length ∧ (List.take x l).all smI = true →
      (decide ((↑x : Int) < (↑(itsL l).length : Int)) = true →
 ((0 : Int) ≤ (↑x : Int) ∧ (↑x : Int) < (↑(itsL l).length : Int)) ∧
 ∃ (s : List UInt8),
 takeAt PA 9 (itsL l) (↑x : Int).toNat 2 = some (AV.str s) ∧
 (decide ((↑s.length : Int) > (100 : Int)) = true → RetIs (AV.bool false) [] (r, [])) ∧
 (decide ((↑s.length : Int) > (100 : Int)) = false →
 ((0 : Int) ≤ (↑x : Int) ∧ (↑x : Int) < (↑(itsL l).length : Int)) ∧
 ∃ (s : List UInt8),
 takeAt PA 9 (itsL l) (↑x : Int).toNat 3 = some (AV.str s) ∧
 (decide ((↑s.length : Int) > (100 : Int)) = true → RetIs (AV.bool false) [] (r, [])) ∧
 (decide ((↑s.length : Int) > (100 : Int)) = false →
 ∃ (y : Nat),
 ValsAre [.sl 6 (itsL l) .no, .int .i64 (IntKind.i64.wrap ((↑x : Int) + (1 : Int)))]
 [.sl 6 (itsL l) .no, .int .i64 (↑y : Int)] ∧
 StIs { boxes := [], live := [] } { boxes := [], live := [] } ∧
 (y ≤ l.length ∧ (List.take y l).all smI = true) ∧ l.length - y < l.length - x))) ∧
        (decide ((↑x : Int) < (↑(itsL l).length : Int)) = false →
 (decide ((↑(itsL l).length : Int) ≤ (40 : Int)) = true → RetIs (AV.bool true) [] (r, [])) ∧
 (decide ((↑(itsL l).length : Int) ≤ (40 : Int)) = false → RetIs (AV.bool false) [] (r, [])))) := by kernel_rfl
theorem y8 (kind : Int) (l : List ItI) (r : AV) : (pureW PA GA XU (tbl [(12, v12), (21, v21)]) (itbl []) (a8z kind l) [] 8 [.int .i64 kind, .sl 6 (itsL l) .no] (r, [])) =
((∃ (y : Nat),
    ValsAre [.int .i64 kind, .sl 6 (itsL l) .no, .int .i64 0]
        [.int .i64 kind, .sl 6 (itsL l) .no, .int .i64 (↑y : Int)] ∧
      StIs { boxes := [], live := [] } { boxes := [], live := [] } ∧ (y ≤ l.length ∧ (List.take y l).all (nuI kind) = true) ∧ True) ∧
  ∀ (x : Nat),
    x ≤ l.length ∧ (List.take x l).all (nuI kind) = true →
      (decide ((↑x : Int) < (↑(itsL l).length : Int)) = true →
 ((0 : Int) ≤ (↑x : Int) ∧ (↑x : Int) < (↑(itsL l).length : Int)) ∧
 ∃ (n : Int),
 takeAt PA 3 (itsL l) (↑x : Int).toNat 5 = some (AV.int IntKind.i64 n) ∧
 ((n != (1 : Int)) = true → RetIs (AV.bool false) [] (r, [])) ∧
 ((n != (1 : Int)) = false →
 ((0 : Int) ≤ (↑x : Int) ∧ (↑x : Int) < (↑(itsL l).length : Int)) ∧
 ∃ (n : Int),
 takeAt PA 3 (itsL l) (↑x : Int).toNat 0 = some (AV.int IntKind.i64 n) ∧
 ((n != kind) = true → RetIs (AV.bool false) [] (r, [])) ∧
 ((n != kind) = false →
 ((0 : Int) ≤ (↑x : Int) ∧ (↑x : Int) < (↑(itsL l).length : Int)) ∧
 ∃ (n : Int) (n_1 : Int) (s : List UInt8),
 takeAt PA 26 (itsL l) (↑x : Int).toNat 0 =
 some (AV.agg [.int .i64 n, .int .i64 n_1, .str s]) ∧
 ∃ (b : Bool),
 CallIs (some (AV.bool (decide (ckP n n_1 s = (0 : Int))), [])) (AV.bool b) [] ∧
 (b = true →
 ∃ (y : Nat),
 ValsAre
 [.int .i64 kind, .sl 6 (itsL l) .no,
 .int .i64 (IntKind.i64.wrap ((↑x : Int) + (1 : Int)))]
 [.int .i64 kind, .sl 6 (itsL l) .no, .int .i64 (↑y : Int)] ∧
 StIs { boxes := [], live := [] } { boxes := [], live := [] } ∧
 (y ≤ l.length ∧ (List.take y l).all (nuI kind) = true) ∧ l.length - y < l.length - x) ∧
 (b = false → RetIs (AV.bool false) [] (r, []))))) ∧
        (decide ((↑x : Int) < (↑(itsL l).length : Int)) = false →
 ∃ (b : Bool),
 CallIs (tbl [((12 : Nat), v12), ((21 : Nat), v21)] 21 [.sl 6 (itsL l) .no]) (AV.bool b) [] ∧
 (b = true →
 ((kind == (2 : Int)) = true → RetIs (AV.bool true) [] (r, [])) ∧
 ((kind == (2 : Int)) = false →
 ((kind == (3 : Int)) = true → RetIs (AV.bool true) [] (r, [])) ∧ ((kind == (3 : Int)) = false → RetIs (AV.bool false) [] (r, [])))) ∧
 (b = false → RetIs (AV.bool false) [] (r, [])))) := by kernel_rfl
theorem y33 (op : List UInt8) (kind : Int) (l : List ItI) (r : AV) : (pureW PA GA XU (tbl [(10, s12), (9, s18)]) (itbl []) nAn [] 33 [.str op, .int .i64 kind, .sl 6 (itsL l) .no] (r, [])) =
(∃ (n : Int) (n_1 : Int) (n_2 : Int) (es : List AV) (es_1 : List AV),
 CallIs (tbl [(10, s12), (9, s18)] 10 [.str op, .sl 6 (itsL l) .no])
 (AV.agg [.int .i64 n, .int .i64 n_1, .int .u64 n_2, .sl 6 es .no, .sl 2 es_1 .no]) [] ∧
 ∃ (n_3 : Int) (n_4 : Int) (s : List UInt8),
 CallIs
 (tbl [(10, s12), (9, s18)] 9
 [.agg
 [.int .i64 5, .str op, .str [], .str [], .int .i64 0, .int .i64 0,
 .str [], .sl 0 [] .nil, .int .i64 0, .int .i64 0, .int .i64 0,
 .sl 0 [] .nil],
 .int .i64 kind,
 .sl 6
 [.agg
 [.int .i64 0, .int .i64 n, .int .i64 n_1, .int .u64 n_2,
 .sl 6 es .no, .sl 2 es_1 .no]]
 .full,
 .int .i64 0])
 (AV.agg [.int .i64 n_3, .int .i64 n_4, .str s]) [] ∧
 RetIs (AV.agg [.int .i64 n_3, .int .i64 n_4, .str s]) [] (r, [])) := by kernel_rfl
theorem y36 (n : Int) (r : AV) : (pureW PA GA XU (tbl []) (itbl []) nAn [] 36 [.int .i64 n] (r, [])) =
(RetIs (AV.agg [.int .i64 2, .int .i64 n, .str []]) [] (r, [])) := by kernel_rfl
theorem y11 (l : List ItI) (q : Int) (r : AV) : (pureW PA GA XU (tbl []) (itbl []) (a11z l q) [] 11 [.sl 6 (itsL l) .no, .int .i64 q] (r, [])) =
((∃ (y : Nat),
    ValsAre [.sl 6 (itsL l) .no, .int .i64 q, .int .i64 0]
        [.sl 6 (itsL l) .no, .int .i64 q, .int .i64 (↑y : Int)] ∧
      StIs { boxes := [], live := [] } { boxes := [], live := [] } ∧ (y ≤ l.length ∧ ∀ (x : ItI), x ∈ List.take y l → rankI l q x = false) ∧ True) ∧
  ∀ (x : Nat),
    (x ≤ l.length ∧ ∀ (x_1 : ItI), x_1 ∈ List.take x l → rankI l q x_1 = false) →
      (decide ((↑x : Int) < (↑(itsL l).length : Int)) = true →
 (∃ (y : Nat × ItI × Nat),
 ValsAre
 [.sl 6 (itsL l) .no, .int .i64 q, .int .i64 (↑x : Int), .int .i64 0,
 .int .i64 0, .int .i64 0]
 [.sl 6 (itsL l) .no, .int .i64 q, .int .i64 (↑y.fst : Int),
 .int .i64 (↑(lessN (List.take y.snd.snd l) y.snd.fst.n) : Int),
 .int .i64 (↑(sameN (List.take y.snd.snd l) y.snd.fst.n) : Int), .int .i64 (↑y.snd.snd : Int)] ∧
 StIs { boxes := [], live := [] } { boxes := [], live := [] } ∧
 (l[y.fst]? = some y.snd.fst ∧ y.snd.snd ≤ l.length) ∧ some (AV.int IntKind.i64 (↑x : Int)) = some (AV.int IntKind.i64 (↑y.fst : Int))) ∧
 ∀ (x_1 : Nat × ItI × Nat),
 l[x_1.fst]? = some x_1.snd.fst ∧ x_1.snd.snd ≤ l.length →
 some (AV.int IntKind.i64 (↑x : Int)) = some (AV.int IntKind.i64 (↑x_1.fst : Int)) →
 (decide ((↑x_1.snd.snd : Int) < (↑(itsL l).length : Int)) = true →
 ((0 : Int) ≤ (↑x_1.snd.snd : Int) ∧ (↑x_1.snd.snd : Int) < (↑(itsL l).length : Int)) ∧
 ∃ (n : Int),
 takeAt PA 3 (itsL l) (↑x_1.snd.snd : Int).toNat 1 = some (AV.int IntKind.i64 n) ∧
 ((0 : Int) ≤ (↑x_1.fst : Int) ∧ (↑x_1.fst : Int) < (↑(itsL l).length : Int)) ∧
 ∃ (n_1 : Int),
 takeAt PA 3 (itsL l) (↑x_1.fst : Int).toNat 1 = some (AV.int IntKind.i64 n_1) ∧
 (decide (n < n_1) = true →
 ((0 : Int) ≤ (↑x_1.snd.snd : Int) ∧ (↑x_1.snd.snd : Int) < (↑(itsL l).length : Int)) ∧
 ∃ (n : Int),
 takeAt PA 3 (itsL l) (↑x_1.snd.snd : Int).toNat 1 = some (AV.int IntKind.i64 n) ∧
 ((0 : Int) ≤ (↑x_1.fst : Int) ∧ (↑x_1.fst : Int) < (↑(itsL l).length : Int)) ∧
 ∃ (n_2 : Int),
 takeAt PA 3 (itsL l) (↑x_1.fst : Int).toNat 1 = some (AV.int IntKind.i64 n_2) ∧
 ((n == n_2) = true →
 ∃ (y : Nat × ItI × Nat),
 ValsAre
 [.sl 6 (itsL l) .no, .int .i64 q, .int .i64 (↑x_1.fst : Int),
 .int .i64
 (IntKind.i64.wrap ((↑(lessN (List.take x_1.snd.snd l) x_1.snd.fst.n) : Int) + (1 : Int))),
 .int .i64
 (IntKind.i64.wrap ((↑(sameN (List.take x_1.snd.snd l) x_1.snd.fst.n) : Int) + (1 : Int))),
 .int .i64 (IntKind.i64.wrap ((↑x_1.snd.snd : Int) + (1 : Int)))]
 [.sl 6 (itsL l) .no, .int .i64 q, .int .i64 (↑y.fst : Int),
 .int .i64 (↑(lessN (List.take y.snd.snd l) y.snd.fst.n) : Int),
 .int .i64 (↑(sameN (List.take y.snd.snd l) y.snd.fst.n) : Int),
 .int .i64 (↑y.snd.snd : Int)] ∧
 StIs { boxes := [], live := [] } { boxes := [], live := [] } ∧
 (l[y.fst]? = some y.snd.fst ∧ y.snd.snd ≤ l.length) ∧
 some (AV.int IntKind.i64 (↑x : Int)) = some (AV.int IntKind.i64 (↑y.fst : Int)) ∧
 l.length - y.snd.snd < l.length - x_1.snd.snd) ∧
 ((n == n_2) = false →
 ∃ (y : Nat × ItI × Nat),
 ValsAre
 [.sl 6 (itsL l) .no, .int .i64 q, .int .i64 (↑x_1.fst : Int),
 .int .i64
 (IntKind.i64.wrap ((↑(lessN (List.take x_1.snd.snd l) x_1.snd.fst.n) : Int) + (1 : Int))),
 .int .i64 (↑(sameN (List.take x_1.snd.snd l) x_1.snd.fst.n) : Int),
 .int .i64 (IntKind.i64.wrap ((↑x_1.snd.snd : Int) + (1 : Int)))]
 [.sl 6 (itsL l) .no, .int .i64 q, .int .i64 (↑y.fst : Int),
 .int .i64 (↑(lessN (List.take y.snd.snd l) y.snd.fst.n) : Int),
 .int .i64 (↑(sameN (List.take y.snd.snd l) y.snd.fst.n) : Int),
 .int .i64 (↑y.snd.snd : Int)] ∧
 StIs { boxes := [], live := [] } { boxes := [], live := [] } ∧
 (l[y.fst]? = some y.snd.fst ∧ y.snd.snd ≤ l.length) ∧
 some (AV.int IntKind.i64 (↑x : Int)) = some (AV.int IntKind.i64 (↑y.fst : Int)) ∧
 l.length - y.snd.snd < l.length - x_1.snd.snd)) ∧
 (decide (n < n_1) = false →
 ((0 : Int) ≤ (↑x_1.snd.snd : Int) ∧ (↑x_1.snd.snd : Int) < (↑(itsL l).length : Int)) ∧
 ∃ (n : Int),
 takeAt PA 3 (itsL l) (↑x_1.snd.snd : Int).toNat 1 = some (AV.int IntKind.i64 n) ∧
 ((0 : Int) ≤ (↑x_1.fst : Int) ∧ (↑x_1.fst : Int) < (↑(itsL l).length : Int)) ∧
 ∃ (n_2 : Int),
 takeAt PA 3 (itsL l) (↑x_1.fst : Int).toNat 1 = some (AV.int IntKind.i64 n_2) ∧
 ((n == n_2) = true →
 ∃ (y : Nat × ItI × Nat),
 ValsAre
 [.sl 6 (itsL l) .no, .int .i64 q, .int .i64 (↑x_1.fst : Int),
 .int .i64 (↑(lessN (List.take x_1.snd.snd l) x_1.snd.fst.n) : Int),
 .int .i64
 (IntKind.i64.wrap ((↑(sameN (List.take x_1.snd.snd l) x_1.snd.fst.n) : Int) + (1 : Int))),
 .int .i64 (IntKind.i64.wrap ((↑x_1.snd.snd : Int) + (1 : Int)))]
 [.sl 6 (itsL l) .no, .int .i64 q, .int .i64 (↑y.fst : Int),
 .int .i64 (↑(lessN (List.take y.snd.snd l) y.snd.fst.n) : Int),
 .int .i64 (↑(sameN (List.take y.snd.snd l) y.snd.fst.n) : Int),
 .int .i64 (↑y.snd.snd : Int)] ∧
 StIs { boxes := [], live := [] } { boxes := [], live := [] } ∧
 (l[y.fst]? = some y.snd.fst ∧ y.snd.snd ≤ l.length) ∧
 some (AV.int IntKind.i64 (↑x : Int)) = some (AV.int IntKind.i64 (↑y.fst : Int)) ∧
 l.length - y.snd.snd < l.length - x_1.snd.snd) ∧
 ((n == n_2) = false →
 ∃ (y : Nat × ItI × Nat),
 ValsAre
 [.sl 6 (itsL l) .no, .int .i64 q, .int .i64 (↑x_1.fst : Int),
 .int .i64 (↑(lessN (List.take x_1.snd.snd l) x_1.snd.fst.n) : Int),
 .int .i64 (↑(sameN (List.take x_1.snd.snd l) x_1.snd.fst.n) : Int),
 .int .i64 (IntKind.i64.wrap ((↑x_1.snd.snd : Int) + (1 : Int)))]
 [.sl 6 (itsL l) .no, .int .i64 q, .int .i64 (↑y.fst : Int),
 .int .i64 (↑(lessN (List.take y.snd.snd l) y.snd.fst.n) : Int),
 .int .i64 (↑(sameN (List.take y.snd.snd l) y.snd.fst.n) : Int),
 .int .i64 (↑y.snd.snd : Int)] ∧
 StIs { boxes := [], live := [] } { boxes := [], live := [] } ∧
 (l[y.fst]? = some y.snd.fst ∧ y.snd.snd ≤ l.length) ∧
 some (AV.int IntKind.i64 (↑x : Int)) = some (AV.int IntKind.i64 (↑y.fst : Int)) ∧
 l.length - y.snd.snd < l.length - x_1.snd.snd))) ∧
 (decide ((↑x_1.snd.snd : Int) < (↑(itsL l).length : Int)) = false →
 (decide ((↑(lessN (List.take x_1.snd.snd l) x_1.snd.fst.n) : Int) < q) = true →
 (decide
 (q ≤
 IntKind.i64.wrap
 ((↑(lessN (List.take x_1.snd.snd l) x_1.snd.fst.n) : Int) + (↑(sameN (List.take x_1.snd.snd l) x_1.snd.fst.n) : Int))) =
 true →
 ((0 : Int) ≤ (↑x_1.fst : Int) ∧ (↑x_1.fst : Int) < (↑(itsL l).length : Int)) ∧
 ∃ (n : Int),
 takeAt PA 3 (itsL l) (↑x_1.fst : Int).toNat 1 = some (AV.int IntKind.i64 n) ∧
 RetIs (AV.int IntKind.i64 n) [] (r, [])) ∧
 (decide
 (q ≤
 IntKind.i64.wrap
 ((↑(lessN (List.take x_1.snd.snd l) x_1.snd.fst.n) : Int) + (↑(sameN (List.take x_1.snd.snd l) x_1.snd.fst.n) : Int))) =
 false →
 ∃ (y : Nat),
 ValsAre
 [.sl 6 (itsL l) .no, .int .i64 q,
 .int .i64 (IntKind.i64.wrap ((↑x_1.fst : Int) + (1 : Int)))]
 [.sl 6 (itsL l) .no, .int .i64 q, .int .i64 (↑y : Int)] ∧
 StIs { boxes := [], live := [] } { boxes := [], live := [] } ∧
 (y ≤ l.length ∧ ∀ (x : ItI), x ∈ List.take y l → rankI l q x = false) ∧ l.length - y < l.length - x)) ∧
 (decide ((↑(lessN (List.take x_1.snd.snd l) x_1.snd.fst.n) : Int) < q) = false →
 ∃ (y : Nat),
 ValsAre
 [.sl 6 (itsL l) .no, .int .i64 q, .int .i64 (IntKind.i64.wrap ((↑x_1.fst : Int) + (1 : Int)))]
 [.sl 6 (itsL l) .no, .int .i64 q, .int .i64 (↑y : Int)] ∧
 StIs { boxes := [], live := [] } { boxes := [], live := [] } ∧
 (y ≤ l.length ∧ ∀ (x : ItI), x ∈ List.take y l → rankI l q x = false) ∧ l.length - y < l.length - x))) ∧
        (decide ((↑x : Int) < (↑(itsL l).length : Int)) = false → RetIs (AV.int IntKind.i64 0) [] (r, []))) := by kernel_rfl
end Go.Abs

namespace Go.Abs
open Go.Proofs Go.Proofs.K17 Go.Proofs.D17 Go.RowKit
theorem wrapB {i : Nat} (h : i + 1 ≤ 9223372036854775807) : IntKind.i64.wrap ((i : Int) + 1) = ((i + 1 : Nat) : Int) := by
  rw [iwN ⟨by omega, by omega⟩]; omega
theorem agg9 : aggA PA 9 = some false := by kernel_rfl
theorem size9 : sizeA PA 9 = some 1 := by kernel_rfl
theorem agg26 : aggA PA 26 = some true := by kernel_rfl
theorem size26 : sizeA PA 26 = some 3 := by kernel_rfl
theorem take_is {l : List ItI} {i : Nat} (h : i < l.length) : takeAt PA 9 (itsL l) i 2 = some (.str l[i].s) := by
  unfold takeAt
  rw [its_at h]
  simp only [agg9, size9, takeA]
  rfl
theorem take_ir {l : List ItI} {i : Nat} (h : i < l.length) : takeAt PA 9 (itsL l) i 3 = some (.str l[i].src) := by
  unfold takeAt
  rw [its_at h]
  simp only [agg9, size9, takeA]
  rfl
theorem take_ik {l : List ItI} {i : Nat} (h : i < l.length) : takeAt PA 3 (itsL l) i 0 = some (.int .i64 l[i].k) := by
  unfold takeAt
  rw [its_at h]
  simp only [agg3, size3, takeA]
  rfl
theorem take_in {l : List ItI} {i : Nat} (h : i < l.length) : takeAt PA 3 (itsL l) i 1 = some (.int .i64 l[i].n) := by
  unfold takeAt
  rw [its_at h]
  simp only [agg3, size3, takeA]
  rfl
theorem take_iv {l : List ItI} {i : Nat} (h : i < l.length) : takeAt PA 26 (itsL l) i 0 = some (valA l[i].k l[i].n l[i].s) := by
  unfold takeAt
  rw [its_at h]
  simp only [agg26, size26, takeA]
  rfl
theorem all_not {α : Type} {p : α → Bool} {l : List α} {i : Nat} (h : i < l.length) (hp : p l[i] = false) : l.all p = false := all_no (List.getElem_mem h) hp
theorem all_succ {α : Type} {p : α → Bool} {l : List α} {i : Nat} (h : i < l.length) (h1 : (l.take i).all p = true) (hp : p l[i] = true) : (l.take (i + 1)).all p = true := by
  rw [List.take_succ_eq_append_getElem h, List.all_append, h1]; simp [hp]
theorem q21 (l : List ItI) (hl : l.length ≤ maxLen) : PureOk PA GA XU (tbl []) (itbl []) (a21 l) [] 21 [.sl 6 (itsL l) .no] (.bool (smallP l), []) := by
  constructor
  rw [y21]
  unfold maxLen at hl
  refine ⟨⟨0, ⟨rfl⟩, ⟨rfl⟩, ⟨Nat.zero_le _, by rw [List.take_zero]; rfl⟩, trivial⟩, fun i hi => ⟨fun lt => ?_, fun ge => ⟨fun c => ?_, fun c => ?_⟩⟩⟩
  · have lt := of_decide_eq_true lt
    rw [len_its] at lt
    have hil : i < l.length := by omega
    have no : smI l[i] = false → RetIs (AV.bool false) [] (AV.bool (smallP l), []) := fun h => retIs_iff.2 (by unfold smallP; rw [all_not hil h]; rfl)
    refine ⟨⟨by omega, by rw [len_its]; omega⟩, _, by rw [Int.toNat_natCast]; exact take_is hil, fun c => no ?_, fun c => ⟨⟨by omega, by rw [len_its]; omega⟩, _, by rw [Int.toNat_natCast]; exact take_ir hil, fun d => no ?_, fun d => ⟨i + 1, ⟨by rw [wrapB (by omega)]⟩, ⟨rfl⟩, ⟨hil, all_succ hil hi.2 ?_⟩, by omega⟩⟩⟩
    · have c := of_decide_eq_true c
      unfold smI; rw [decide_eq_false (by omega)]; rfl
    · have d := of_decide_eq_true d
      unfold smI; rw [decide_eq_false (show ¬ l[i].src.length ≤ 100 by omega), Bool.and_false]
    · have c := of_decide_eq_false c
      have d := of_decide_eq_false d
      unfold smI; rw [decide_eq_true (by omega), decide_eq_true (by omega)]; rfl
  · have ge := of_decide_eq_false ge
    have c := of_decide_eq_true c
    rw [len_its] at ge c
    have h2 := hi.2
    rw [List.take_of_length_le (by omega)] at h2
    refine retIs_iff.2 ?_
    unfold smallP; rw [h2, decide_eq_true (by omega)]; rfl
  · have c := of_decide_eq_false c
    rw [len_its] at c
    refine retIs_iff.2 ?_
    unfold smallP; rw [decide_eq_false (by omega), Bool.and_false]
theorem q8 (kind : Int) (l : List ItI) (hl : l.length ≤ maxLen) : PureOk PA GA XU (tbl [(12, v12), (21, v21)]) (itbl []) (a8z kind l) [] 8 [.int .i64 kind, .sl 6 (itsL l) .no] (.bool (nuP kind l), []) := by
  constructor
  rw [y8]
  have hl' := hl
  unfold maxLen at hl
  refine ⟨⟨0, ⟨rfl⟩, ⟨rfl⟩, ⟨Nat.zero_le _, by rw [List.take_zero]; rfl⟩, trivial⟩, fun i hi => ⟨fun lt => ?_, fun ge => ?_⟩⟩
  · have lt := of_decide_eq_true lt
    rw [len_its] at lt
    have hil : i < l.length := by omega
    have no : nuI kind l[i] = false → RetIs (AV.bool false) [] (AV.bool (nuP kind l), []) := fun h => retIs_iff.2 (by unfold nuP; rw [all_not hil h]; rfl)
    refine ⟨⟨by omega, by rw [len_its]; omega⟩, _, by rw [Int.toNat_natCast]; exact take_ic hil, fun c => no ?_, fun c => ⟨⟨by omega, by rw [len_its]; omega⟩, _, by rw [Int.toNat_natCast]; exact take_ik hil, fun d => no ?_, fun d => ⟨⟨by omega, by rw [len_its]; omega⟩, _, _, _, by rw [Int.toNat_natCast]; exact take_iv hil, _, callIs_iff.2 rfl, fun e => ⟨i + 1, ⟨by rw [wrapB (by omega)]⟩, ⟨rfl⟩, ⟨hil, all_succ hil hi.2 ?_⟩, by omega⟩, fun e => no ?_⟩⟩⟩
    · have c : (l[i].c == 1) = false := by simpa using c
      unfold nuI; rw [c]; rfl
    · have d : (l[i].k == kind) = false := by simpa using d
      unfold nuI; rw [d, Bool.and_false, Bool.false_and]
    · have c : (l[i].c == 1) = true := by simpa using c
      have d : (l[i].k == kind) = true := by simpa using d
      unfold nuI; rw [c, d, e]; rfl
    · unfold nuI; rw [e, Bool.and_false]
  · have ge := of_decide_eq_false ge
    rw [len_its] at ge
    have h2 := hi.2
    rw [List.take_of_length_le (by omega)] at h2
    refine ⟨smallP l, callIs_iff.2 ?_, fun b => ⟨fun c => retIs_iff.2 ?_, fun c => ⟨fun d => retIs_iff.2 ?_, fun d => retIs_iff.2 ?_⟩⟩, fun b => retIs_iff.2 ?_⟩
    · rw [tb_miss (by decide), tb_hit]; simp only [v21, show unL unI (itsL l) = some l from unL_map unI_ok l]
      rw [if_pos ⟨.inl trivial, hl'⟩]
    · unfold nuP; rw [h2, b, c]; rfl
    · unfold nuP; rw [h2, b, c, d]; rfl
    · unfold nuP; rw [c, d, Bool.or_self, Bool.and_false]
    · unfold nuP; rw [b, Bool.and_false, Bool.false_and]
theorem kept_from {f : Bool} {s : StI} {L : List ItI} (hs : StOf (.keep f) s L) : ∀ z ∈ s.its, ∃ x ∈ L, ky f x = ky f z := fun z hz => by
  obtain ⟨i1, i2⟩ := hs.i.1 f rfl
  refine cnt_mem fun e => ?_
  have := srt_mem i1 hz
  rw [i2, e, w64_0] at this
  exact (i1.nrm z hz).2.1 this.symm
theorem itW_of {fam : Fam} {s : StI} {L : List ItI} (hs : StOf fam s L) (hL : ∀ x ∈ L, (itOk x ∧ iOk x.k) ∧ x.s.length ≤ 100) : ∀ z ∈ s.its, itW z := fun z hz => by
  by_cases hf : ∃ f, fam = .keep f
  · obtain ⟨f, rfl⟩ := hf
    obtain ⟨x, hx, e⟩ := kept_from hs z hz
    have hn := ((hs.i.1 f rfl).1.nrm z hz).2.2
    obtain ⟨⟨h1, h2⟩, h3⟩ := hL x hx
    have ek : x.k = z.k ∧ x.n = z.n ∧ x.s = z.s := by
      cases f
      · have e : ([], (0 : Int), x.k, x.n, x.s) = ([], (0 : Int), z.k, z.n, z.s) := e
        simp only [Prod.mk.injEq] at e
        exact e.2.2
      · have e : (x.src, x.q, x.k, x.n, x.s) = (z.src, z.q, z.k, z.n, z.s) := e
        simp only [Prod.mk.injEq] at e
        exact e.2.2
    refine ⟨⟨by rw [← ek.2.1]; exact h1.1, hn⟩, by rw [← ek.1]; exact h2, ?_⟩
    rw [← ek.2.2]; unfold maxLen; omega
  · rw [hs.i.2 fun f e => hf ⟨f, e⟩] at hz; cases hz
theorem resP_form (op : List UInt8) (param kind t : Int) (C : List CeI) : ∃ a b s, resP op param kind C t = .agg [.int .i64 a, .int .i64 b, .str s] := by
  unfold resP
  split
  · exact ⟨_, _, _, rfl⟩
  · split
    · exact ⟨_, _, _, rfl⟩
    · exact valP_form _ _ _ _ _ _ _
theorem q33 (op : List UInt8) (kind : Int) (l : List ItI) (hl : l.length ≤ 100) (ol : ∀ x ∈ l, okI x) : PureOk PA GA XU (tbl [(10, s12), (9, s18)]) (itbl []) nAn [] 33 [.str op, .int .i64 kind, .sl 6 (itsL l) .no] (resP op 0 kind [⟨0, ofP op l⟩] 0, []) := by
  constructor
  rw [y33]
  have ol1 : ∀ x ∈ l, itOk x := fun x hx => (ol x hx).1
  have B := ofP_ok op ol1
  have hW : ∀ z ∈ (ofP op l).its, itW z := by
    cases hf : famO op with
    | none =>
      have : ∀ (l : List ItI) (s : StI), l.foldl (addP op) s = s := by
        intro l
        induction l with
        | nil => exact fun s => rfl
        | cons x l ih => intro s; rw [List.foldl_cons]; have e : addP op s x = s := by unfold addP; rw [hf]
                         rw [e]; exact ih s
      have e : ofP op l = StI.z := this l _
      rw [e]; intro z hz; cases hz
    | some fam => exact itW_of (stOf_of hf ol1) fun x hx => ⟨⟨(ol x hx).1, (ol x hx).2.1⟩, (ol x hx).2.2⟩
  have hC : cesOk [⟨0, ofP op l⟩] := ⟨by simp, fun c hc => by
    obtain rfl := List.mem_singleton.1 hc
    have := B.i
    have := B.k
    exact ⟨B.w, B.b, hW, by show (ofP op l).its.length ≤ _; omega, by show (ofP op l).bks.length ≤ _; omega⟩⟩
  have c10 : tbl [(10, s12), (9, s18)] 10 [.str op, .sl 6 (itsL l) .no] = some (stA (ofP op l), []) := by
    rw [tb_hit]; simp only [s12, show unL unI (itsL l) = some l from unL_map unI_ok l]
    rw [if_pos ⟨.inl trivial, by omega, ol1⟩]
  obtain ⟨a, b, s, e⟩ := resP_form op 0 kind 0 [⟨0, ofP op l⟩]
  have c9 : tbl [(10, s12), (9, s18)] 9 [.agg (exC 5 op 0), .int .i64 kind, .sl 6 (cesL [⟨0, ofP op l⟩]) .full, .int .i64 0] = some (.agg [.int .i64 a, .int .i64 b, .str s], []) := by
    rw [tb_miss (by decide), tb_hit]; simp only [s18, show unL unCe (cesL [⟨0, ofP op l⟩]) = some [⟨0, ofP op l⟩] from unL_map unCe_ok _]
    rw [if_pos ⟨⟨⟨rfl, rfl, rfl⟩, by simp⟩, .inl trivial, hC, by unfold iOk; decide⟩, e]
  exact ⟨_, _, _, _, _, callIs_iff.2 c10, a, b, s, callIs_iff.2 c9, retIs_iff.2 (by rw [e])⟩
theorem less_succ {l : List ItI} {j : Nat} (h : j < l.length) (n : Int) : lessN (l.take (j + 1)) n = lessN (l.take j) n + (if l[j].n < n then 1 else 0) := by
  unfold lessN
  rw [List.take_succ_eq_append_getElem h, List.filter_append, List.length_append]
  congr 1
  by_cases hh : l[j].n < n <;> simp [hh]
theorem same_succ {l : List ItI} {j : Nat} (h : j < l.length) (n : Int) : sameN (l.take (j + 1)) n = sameN (l.take j) n + (if l[j].n = n then 1 else 0) := by
  unfold sameN
  rw [List.take_succ_eq_append_getElem h, List.filter_append, List.length_append]
  congr 1
  by_cases hh : l[j].n = n <;> simp [hh]
theorem less_le (l : List ItI) (n : Int) : lessN l n ≤ l.length := List.length_filter_le ..
theorem same_le (l : List ItI) (n : Int) : sameN l n ≤ l.length := List.length_filter_le ..
theorem rank_find {l : List ItI} {r : Int} {i : Nat} (h : i < l.length) (h0 : ∀ x ∈ l.take i, rankI l r x = false) (h1 : rankI l r l[i] = true) : rankP l r = l[i].n := by
  unfold rankP
  have e : l.find? (rankI l r) = some l[i] := by
    have : l = l.take i ++ l[i] :: l.drop (i + 1) := by rw [List.getElem_cons_drop, List.take_append_drop]
    conv => lhs; arg 2; rw [this]
    rw [List.find?_append, List.find?_eq_none.2 fun x hx => by rw [h0 x hx]; simp, Option.none_or, List.find?_cons, h1]
  rw [e]
theorem rank_none {l : List ItI} {r : Int} (h0 : ∀ x ∈ l, rankI l r x = false) : rankP l r = 0 := by
  unfold rankP
  rw [List.find?_eq_none.2 fun x hx => by rw [h0 x hx]; simp]
theorem q11 (l : List ItI) (q : Int) (hl : l.length ≤ 1000) : PureOk PA GA XU (tbl []) (itbl []) (a11z l q) [] 11 [.sl 6 (itsL l) .no, .int .i64 q] (.int .i64 (rankP l q), []) := by
  constructor
  rw [y11]
  refine ⟨⟨0, ⟨rfl⟩, ⟨rfl⟩, ⟨Nat.zero_le _, fun x hx => by rw [List.take_zero] at hx; cases hx⟩, trivial⟩, fun i hi => ⟨fun lt => ?_, fun ge => ?_⟩⟩
  · have lt := of_decide_eq_true lt
    rw [len_its] at lt
    have hil : i < l.length := by omega
    refine ⟨⟨(i, l[i], 0), ⟨rfl⟩, ⟨rfl⟩, ⟨List.getElem?_eq_getElem hil, Nat.zero_le _⟩, rfl⟩, fun p hp hk => ?_⟩
    obtain ⟨pi, px, pj⟩ := p
    obtain ⟨hpx, hpj⟩ := hp
    dsimp only at hpx hpj hk ⊢
    have e : i = pi := by
      have := congrArg (fun o : Option AV => match o with | some (.int _ z) => z | _ => 0) hk
      have this : (i : Int) = pi := this
      omega
    subst e
    rw [List.getElem?_eq_getElem hil] at hpx
    injection hpx with hpx; subst hpx
    have L1 := less_le (l.take pj) l[i].n
    have L2 := same_le (l.take pj) l[i].n
    rw [List.length_take] at L1 L2
    refine ⟨fun lt2 => ?_, fun ge2 => ?_⟩
    · have lt2 := of_decide_eq_true lt2
      rw [len_its] at lt2
      have hjl : pj < l.length := by omega
      have bi : (0 : Int) ≤ (i : Int) ∧ (i : Int) < ((itsL l).length : Int) := ⟨by omega, by rw [len_its]; omega⟩
      have bj : (0 : Int) ≤ (pj : Int) ∧ (pj : Int) < ((itsL l).length : Int) := ⟨by omega, by rw [len_its]; omega⟩
      have ti : takeAt PA 3 (itsL l) ((i : Int)).toNat 1 = some (.int .i64 l[i].n) := by rw [Int.toNat_natCast]; exact take_in hil
      have tj : takeAt PA 3 (itsL l) ((pj : Int)).toNat 1 = some (.int .i64 l[pj].n) := by rw [Int.toNat_natCast]; exact take_in hjl
      have hs := less_succ hjl l[i].n
      have hs2 := same_succ hjl l[i].n
      have mu : l.length - (pj + 1) < l.length - pj := by omega
      refine ⟨bj, _, tj, bi, _, ti, fun c => ⟨bj, _, tj, bi, _, ti, fun d => ?_, fun d => ⟨(i, l[i], pj + 1), ⟨?_⟩, ⟨rfl⟩, ⟨List.getElem?_eq_getElem hil, hjl⟩, hk, mu⟩⟩, fun c => ⟨bj, _, tj, bi, _, ti, fun d => ⟨(i, l[i], pj + 1), ⟨?_⟩, ⟨rfl⟩, ⟨List.getElem?_eq_getElem hil, hjl⟩, hk, mu⟩, fun d => ⟨(i, l[i], pj + 1), ⟨?_⟩, ⟨rfl⟩, ⟨List.getElem?_eq_getElem hil, hjl⟩, hk, mu⟩⟩⟩
      · have c := of_decide_eq_true c
        have d : l[pj].n = l[i].n := by simpa using d
        omega
      · have c := of_decide_eq_true c
        have d : ¬ l[pj].n = l[i].n := by omega
        rw [if_pos c] at hs
        rw [if_neg d] at hs2
        dsimp only
        rw [wrapB (by omega), wrapB (by omega), hs, hs2]
        first | done | rfl
      · have c := of_decide_eq_false c
        have d : l[pj].n = l[i].n := by simpa using d
        rw [if_neg c] at hs
        rw [if_pos d] at hs2
        dsimp only
        rw [wrapB (by omega), wrapB (by omega), hs, hs2]
        first | done | rfl
      · have c := of_decide_eq_false c
        have d : ¬ l[pj].n = l[i].n := by simpa using d
        rw [if_neg c] at hs
        rw [if_neg d] at hs2
        dsimp only
        rw [wrapB (by omega), hs, hs2]
        first | done | rfl
    · have ge2 := of_decide_eq_false ge2
      rw [len_its] at ge2
      have hall : l.take pj = l := List.take_of_length_le (by omega)
      have ti : takeAt PA 3 (itsL l) ((i : Int)).toNat 1 = some (.int .i64 l[i].n) := by rw [Int.toNat_natCast]; exact take_in hil
      have hw : IntKind.i64.wrap ((lessN (l.take pj) l[i].n : Int) + (sameN (l.take pj) l[i].n : Int)) = lessN l l[i].n + sameN l l[i].n := by
        rw [iwN ⟨by omega, by omega⟩, hall]
      have step : rankI l q l[i] = false → ∀ x ∈ l.take (i + 1), rankI l q x = false := fun h x hx => by
        rw [List.take_succ_eq_append_getElem hil] at hx
        rcases List.mem_append.1 hx with hx | hx
        · exact hi.2 x hx
        · obtain rfl := List.mem_singleton.1 hx; exact h
      refine ⟨fun c => ⟨fun d => ⟨⟨by omega, by rw [len_its]; omega⟩, _, ti, retIs_iff.2 ?_⟩, fun d => ⟨i + 1, ⟨by rw [wrapB (by omega)]⟩, ⟨rfl⟩, ⟨hil, step ?_⟩, by omega⟩⟩, fun c => ⟨i + 1, ⟨by rw [wrapB (by omega)]⟩, ⟨rfl⟩, ⟨hil, step ?_⟩, by omega⟩⟩
      · rw [hw] at d
        rw [hall] at c
        rw [rank_find hil hi.2 (by unfold rankI; rw [c, d]; rfl)]
      · rw [hw] at d
        unfold rankI; rw [d, Bool.and_false]
      · rw [hall] at c
        unfold rankI; rw [c]; rfl
  · have ge := of_decide_eq_false ge
    rw [len_its] at ge
    have h2 := hi.2
    rw [List.take_of_length_le (by omega)] at h2
    exact retIs_iff.2 (by rw [rank_none h2])
theorem q36 (n : Int) : PureOk PA GA XU (tbl []) (itbl []) nAn [] 36 [.int .i64 n] (valA 2 n [], []) := by
  constructor
  rw [y36]
  exact retIs_iff.2 rfl
theorem wk_its {sz : Nat} {l : List ItI} {o : Own} (h : sz = 6 ∨ l = []) : wkSt (.sl sz (l.map itA) o) = .sl 6 (itsL l) .no := by
  cases l with
  | nil => rfl
  | cons x l =>
    obtain rfl : sz = 6 := h.resolve_right (by simp)
    rfl
theorem j36 : SpecOk PA GA 36 v36 := spec_of (X := XU) (m := []) mixedA tbl_nil itbl_nil fun args r h => by
  unfold v36 at h
  split at h
  case h_2 => cases h
  injection h with h; subst h
  exact ⟨_, q36 _⟩
theorem j21 : SpecOk PA GA 21 v21 := spec_wkS fun args r h => by
  unfold v21 at h
  split at h
  case h_2 => cases h
  split at h
  case h_2 => cases h
  rename_i l hl
  split at h
  case isFalse => cases h
  rename_i hc
  injection h with h; subst h
  obtain rfl := unL_inv unI_inv hl
  rw [List.map_cons, List.map_nil, wk_its hc.1]
  exact one_pure mixedA tbl_nil itbl_nil (q21 l hc.2)
theorem j8 : SpecOk PA GA 8 v8 := spec_wkS fun args r h => by
  unfold v8 at h
  split at h
  case h_2 => cases h
  split at h
  case h_2 => cases h
  rename_i l hl
  split at h
  case isFalse => cases h
  rename_i hc
  injection h with h; subst h
  obtain rfl := unL_inv unI_inv hl
  rw [List.map_cons, List.map_cons, List.map_nil, wk_its hc.1]
  exact one_pure mixedA (tbl_cons j12 (tbl_cons j21 tbl_nil)) itbl_nil (q8 _ l hc.2)
theorem j33 : SpecOk PA GA 33 v33 := spec_wkS fun args r h => by
  unfold v33 at h
  split at h
  case h_2 => cases h
  split at h
  case h_2 => cases h
  rename_i l hl
  split at h
  case isFalse => cases h
  rename_i hc
  injection h with h; subst h
  obtain rfl := unL_inv unI_inv hl
  rw [List.map_cons, List.map_cons, List.map_cons, List.map_nil, wk_its hc.1]
  exact one_pure mixedA (tbl_cons o12 (tbl_cons o18 tbl_nil)) itbl_nil (q33 _ _ l hc.2.1 hc.2.2)
theorem j11 : SpecOk PA GA 11 v11 := spec_wkS fun args r h => by
  unfold v11 at h
  split at h
  case h_2 => cases h
  split at h
  case h_2 => cases h
  rename_i l hl
  split at h
  case isFalse => cases h
  rename_i hc
  injection h with h; subst h
  obtain rfl := unL_inv unI_inv hl
  rw [List.map_cons, List.map_cons, List.map_nil, wk_its hc.1]
  exact one_pure mixedA tbl_nil itbl_nil (q11 l _ hc.2)
end Go.Abs

namespace Go.Abs
open Go.Proofs Go.Proofs.K17 Go.Proofs.D17 Go.RowKit
def v54 : Spec := fun args => match args with
  | [.int .i64 n] => some (.bool (inR n), [])
  | _ => none
def v76 : Spec := fun args => match args with
  | [.int .i64 n] => if iOk n then some (.tup [.int .u64 n.natAbs, .bool (decide (n < 0))], []) else none
  | _ => none
def tupP (q : Int × Bool) : AV := .tup [.int .i64 q.1, .bool q.2]
def v58 : Spec := fun args => match args with
  | [.int .i64 a, .int .i64 b, .int .i64 c] => if iOk a ∧ iOk b ∧ iOk c ∧ c ≠ 0 ∧ (a * b).natAbs / c.natAbs < 9223372036854775808 then some (tupP (divP (a * b) c), []) else none
  | _ => none
def addD (x y : Int) : Int × Bool := if inR x = true ∧ inR y = true ∧ inR (x + y) = true then (x + y, true) else (0, false)
def v34 : Spec := fun args => match args with
  | [.int .i64 x, .int .i64 y] => some (tupP (addD x y), [])
  | _ => none
def fromD (x : Int) : Int × Bool := if -1152921504606 ≤ x ∧ x ≤ 1152921504606 then (x * 1000000, true) else (0, false)
def v37 : Spec := fun args => match args with
  | [.int .i64 x] => some (tupP (fromD x), [])
  | _ => none
def divD (x y : Int) : Int × Bool := if inR x = true ∧ inR y = true ∧ y ≠ 0 then divP (x * 1000000) y else (0, false)
def v38 : Spec := fun args => match args with
  | [.int .i64 x, .int .i64 y] => if iOk x ∧ iOk y ∧ (x * 1000000).natAbs / y.natAbs < 9223372036854775808 then some (tupP (divD x y), []) else none
  | _ => none
def XM : Shapes := fun f => match f with
  | 54 => some shB
  | 76 => some (.tup [.one (.int .u64), .one .bool], none)
  | 65 | 43 => some sh2U
  | 58 | 34 | 37 | 38 => some shIB
  | f => XU f
/-- what is rounded -/
def rnd (a b c : Int) : Int := nearN (a * b).natAbs c.natAbs
def a58 (a b c : Int) : Anns := ⟨fun k => if k = 1000002 then some { α := Unit, slots := [1, 2, 8, 9], nb := 0, vals := fun _ => [.int .i64 b, .int .i64 c, .int .u64 a.natAbs, .bool (decide (a < 0))], sS := fun _ => ⟨[], []⟩, I := fun _ => True, μ := fun _ => 0 }
  else if k = 1000003 then some { α := Unit, slots := [2, 8, 9, 10, 11], nb := 0, vals := fun _ => [.int .i64 c, .int .u64 a.natAbs, .bool (decide (a < 0)), .int .u64 b.natAbs, .bool (decide (b < 0))], sS := fun _ => ⟨[], []⟩, I := fun _ => True, μ := fun _ => 0 }
  else if k = 1000004 then some { α := Unit, slots := [8, 9, 10, 11, 12, 13], nb := 0, vals := fun _ => [.int .u64 a.natAbs, .bool (decide (a < 0)), .int .u64 b.natAbs, .bool (decide (b < 0)), .int .u64 c.natAbs, .bool (decide (c < 0))], sS := fun _ => ⟨[], []⟩, I := fun _ => True, μ := fun _ => 0 }
  else if k = 1000010 then some { α := Unit, slots := [9, 11, 13, 16], nb := 0, vals := fun _ => [.bool (decide (a < 0)), .bool (decide (b < 0)), .bool (decide (c < 0)), .int .u64 (rnd a b c)], sS := fun _ => ⟨[], []⟩, I := fun _ => rnd a b c < 18446744073709551616, μ := fun _ => 0, bools := [9, 11, 13] }
  else none, nA⟩
end Go.Abs

namespace Go.Abs
open Go.Proofs Go.Proofs.K17 Go.Proofs.D17 Go.RowKit
def v13 : Spec := fun args => match args with
  | [.int .i64 n] => some (valA 3 n [], [])
  | _ => none
def itM (m : Int) : ItI := ⟨3, m, [], [], 0, 1⟩
def ceM (e m : Int) : CeI := ⟨e, ofP bDecay [itM m]⟩
def wantP (m k : Int) : Int := if k < 32 then (divP m (2 ^ k.toNat)).1 else 0
def sumD (m n half k : Int) : Int := m * weightP half (k * half) + n * 4294967296
def b4 (m n half event k : Int) : Anns :=
  let vs : List AV := [.int .i64 m, .int .i64 n, .int .i64 half, .int .i64 event, .int .i64 k]
  let B1 : Option (List AV) := some (exC 5 bDecay half)
  let B2 : Option (List AV) := some (ceC (ceM event m))
  let B3 : Option (List AV) := some (ceC (ceM (event + k * half) n))
  let W : Option (List AV) := some [.int .i64 (whi (sumD m n half k)), .int .u64 (wlo (sumD m n half k))]
  ⟨fun j => if j = 1000007 then some { α := Unit, slots := [0, 1, 2, 3, 4, 11, 12], nb := 2, vals := fun _ => vs ++ [.ptr 0 0, .ptr 1 0], sS := fun _ => ⟨[B1, B2], []⟩, I := fun _ => True, μ := fun _ => 0 }
  else if j = 1000011 then some { α := Unit, slots := [0, 1, 2, 3, 4, 11, 12, 13, 14], nb := 2, vals := fun _ => vs ++ [.ptr 0 0, .ptr 1 0, .int .i64 (event + k * half), .int .i64 (wantP m k)], sS := fun _ => ⟨[B1, B2], []⟩, I := fun _ => True, μ := fun _ => 0 }
  else if j = 1000013 then some { α := Unit, slots := [0, 1, 2, 3, 4, 11, 12, 13], nb := 2, vals := fun _ => vs ++ [.ptr 0 0, .ptr 1 0, .int .i64 (event + k * half)], sS := fun _ => ⟨[B1, B2], []⟩, I := fun _ => True, μ := fun _ => 0 }
  else if j = 1000014 then some { α := Unit, slots := [0, 1, 2, 3, 4, 11, 12, 13, 15], nb := 3, vals := fun _ => vs ++ [.ptr 0 0, .ptr 1 0, .int .i64 (event + k * half), .ptr 2 0], sS := fun _ => ⟨[B1, B2, B3], []⟩, I := fun _ => True, μ := fun _ => 0 }
  else if j = 1000015 then some { α := Unit, slots := [0, 1, 2, 3, 4, 11, 12, 13, 15, 16], nb := 4, vals := fun _ => vs ++ [.ptr 0 0, .ptr 1 0, .int .i64 (event + k * half), .ptr 2 0, .ptr 3 0], sS := fun _ => ⟨[B1, B2, B3, W], []⟩, I := fun _ => True, μ := fun _ => 0 }
  else none, nA⟩
end Go.Abs
