/- Own texts, part 4. -/
import Derived.Test.YtpijifiekgbjnaaDoorPart3
import Derived.Test.YtpijifiekgbjnaaDoorShelf
import Derived.Lib.AtoiErrMem
import Derived.Lib.AppendIntMem
import Derived.WideMake
import Derived.Lib.IndexBytes

namespace Go.Abs
open Go.Proofs Go.Wire
theorem sl_ok {l : List UInt8} : (1 = 1 ∨ bytesL l = []) := .inl rfl
theorem s56_at {bs : List UInt8} {n : Int} {o : Own} (h : strOk bs) (hn : u64Ok n) : s34 [.sl 1 (bytesL bs) o, .int .u64 n] = some (ownR (bs ++ uintL n.toNat)) := by
  simp only [s34, sBytesNum, onBytes, unBytes_mk, true_or, true_and, if_true, h, hn]
theorem s38_at {bs : List UInt8} {n : Int} {o : Own} (h : strOk bs) (hn : i64Ok n) : s14 [.sl 1 (bytesL bs) o, .int .i64 n] = some (ownR (bs ++ uintL (zig n))) := by
  simp only [s14, sBytesNum, onBytes, unBytes_mk, true_or, true_and, if_true, h, hn]
theorem s39_at {bs s : List UInt8} {o : Own} (h : strOk bs) (hn : strOk s) : s29 [.sl 1 (bytesL bs) o, .str s] = some (ownR (bs ++ textL s)) := by
  simp only [s29, onBytes, unBytes_mk, true_or, true_and, if_true, h, hn]
theorem zig_lt {n : Int} (h : i64Ok n) : zig n < 18446744073709551616 := by
  obtain ⟨h0, h1⟩ := h
  unfold zig; split <;> omega
theorem bv_neg (x : Nat) (hx : x < 18446744073709551616) : (BitVec.ofNat 64 x ^^^ BitVec.allOnes 64).toNat = 18446744073709551615 - x := by
  rw [BitVec.xor_allOnes, BitVec.toNat_not, BitVec.toNat_ofNat]
  omega
theorem zig_bits {n : Int} (h : i64Ok n) : IntKind.u64.wrap (↑(BitVec.ofInt IntKind.u64.bits (IntKind.u64.wrap (IntKind.u64.wrap n * (2 : Int) ^ min (Int.toNat (1 : Int)) IntKind.u64.bits)) ^^^
                          BitVec.ofInt IntKind.u64.bits (IntKind.u64.wrap (n.fdiv ((2 : Int) ^ min (Int.toNat (63 : Int)) IntKind.i64.bits)))).toNat : Int) = (zig n : Int) := by
  obtain ⟨h0, h1⟩ := h
  have e1 : IntKind.u64.bits = 64 := rfl
  have e2 : IntKind.i64.bits = 64 := rfl
  rw [e1, e2, show min (Int.toNat 1) 64 = 1 by decide, show min (Int.toNat 63) 64 = 63 by decide]
  rw [wrapu64, wrapu64, wrapu64, wrapu64, Int.pow_succ, Int.pow_zero, Int.one_mul]
  have e3 : (2 : Int) ^ 63 = 9223372036854775808 := by decide
  rw [e3, Int.fdiv_eq_ediv_of_nonneg _ (by omega)]
  by_cases hn : 0 ≤ n
  · have e4 : n / 9223372036854775808 % 18446744073709551616 = 0 := by omega
    have e5 : n % 18446744073709551616 * 2 % 18446744073709551616 = ((2 * n).toNat : Int) := by omega
    rw [e4, e5]
    have : BitVec.ofInt 64 (0 : Int) = 0#64 := by decide
    rw [this, BitVec.xor_zero, BitVec.ofInt_natCast, BitVec.toNat_ofNat]
    unfold zig; rw [if_pos hn]; omega
  · have e4 : n / 9223372036854775808 % 18446744073709551616 = 18446744073709551615 := by omega
    have e5 : n % 18446744073709551616 * 2 % 18446744073709551616 = ((2 * n + 18446744073709551616).toNat : Int) := by omega
    rw [e4, e5]
    have : BitVec.ofInt 64 (18446744073709551615 : Int) = BitVec.allOnes 64 := by decide
    rw [this, BitVec.ofInt_natCast, bv_neg _ (by omega)]
    unfold zig; rw [if_neg hn]; omega
theorem wrapi64 (n : Int) : IntKind.i64.wrap n = (n + 9223372036854775808) % 18446744073709551616 - 9223372036854775808 := by
  simp only [IntKind.wrap, IntKind.bits, IntKind.signed]
  simp
  split <;> omega
theorem wrapu64_len {s : List UInt8} (h : strOk s) : IntKind.u64.wrap (s.length : Int) = (s.length : Int) := by
  have : s.length ≤ 1000000 := h
  rw [wrapu64]; omega
theorem u64Ok_nat {n : Nat} (h : n < 18446744073709551616) : u64Ok (n : Int) := ⟨by omega, by omega⟩
theorem p14 (m n : Int) (bs : List UInt8) (hs : strOk bs) (hn : i64Ok n) : PureOk PZ (GZ m) XN (tbl [(34, s34)]) (itbl []) nAn [] 14 [bytesA bs, .int .i64 n] (ownR (bs ++ uintL (zig n))) := by
  constructor
  generalize hr : bs ++ uintL (zig n) = r
  rw [w14, zig_bits hn, tbl_hit, s56_at hs (u64Ok_nat (zig_lt hn)), Int.toNat_natCast, hr]
  exact ⟨by omega, by omega, bytesL r, ⟨by simp [ownR]⟩, rfl, ⟨by simp []⟩⟩
theorem p29 (m : Int) (bs s : List UInt8) (hs : strOk bs) (hn : strOk s) : PureOk PZ (GZ m) XN (tbl [(34, s34)]) (itbl []) nAn [] 29 [bytesA bs, .str s] (ownR (bs ++ textL s)) := by
  have h1 : s.length ≤ 1000000 := hn
  have h2 : bs.length ≤ 1000000 := hs
  have h3 := uintL_len10 (n := s.length) (by omega)
  constructor
  rw [w29, wrapu64_len hn, tbl_hit, s56_at hs (u64Ok_nat (by omega)), Int.toNat_natCast]
  refine ⟨bytesL (bs ++ uintL s.length), ⟨by simp [ownR]⟩, sl_ok, ?_, rfl, ?_, ⟨?_⟩⟩
  · simp [bytesL]; omega
  · simp [bytesL]; omega
  · simp [bytesL, textL]; omega
theorem zig_len {n : Int} (h : i64Ok n) : (uintL (zig n)).length ≤ 10 := uintL_len10 (zig_lt h)
theorem wk1 {sz : Nat} {es : List AV} {o : Own} {bs : List UInt8} (hz : sz = 1 ∨ es = []) (hb : unBytes es = some bs) : wkA 1 (.sl sz es o) = bytesA bs := by
  obtain rfl := unBytes_some hb
  rcases hz with rfl | hz
  · cases bs <;> rfl
  · rw [bytesL_eq_nil] at hz; subst hz; rfl
theorem sBN_of {X : Shapes} {R : Callee} {C : CCallee} {m : Int} {g : FuncId} {k : IntKind} {p : Int → Prop} [∀ n, Decidable (p n)] {f : List UInt8 → Int → AV × List (Nat × TypeId)} (hR : CalleeOk PZ (GZ m) R) (hC : ICalleeOk PZ (GZ m) (lowC C))
    (h : ∀ bs n, strOk bs → p n → ∃ A, PureOk PZ (GZ m) X R C A [] g [bytesA bs, .int k n] (f bs n)) : SpecOk PZ (GZ m) g (sBytesNum k p f) := spec_ofW (X := X) (m := []) [1] mixedZ hR hC fun args r h' => by
  unfold sBytesNum onBytes at h'
  split at h'
  · split at h'
    · rename_i hc
      obtain ⟨hz, rfl⟩ := hc
      split at h'
      · rename_i bs hb
        dsimp only at h'
        split at h'
        · rename_i hp
          injection h' with h'; subst h'
          simp only [wkL, wk1 hz hb]
          exact h _ _ hp.1 hp.2
        · cases h'
      · cases h'
    · cases h'
  · cases h'
theorem o34 (m : Int) : SpecOk PZ (GZ m) 34 s34 := sBN_of (X := XN) tbl_nil itbl_nil fun bs n hs hn => ⟨a34 bs n.toNat, by
  obtain ⟨N, rfl⟩ : ∃ N : Nat, n = N := ⟨n.toNat, by have := hn.1; omega⟩
  exact p34 m N bs hs (by have := hn.2; omega)⟩
theorem o14 (m : Int) : SpecOk PZ (GZ m) 14 s14 := sBN_of (X := XN) (tbl_cons (o34 m) tbl_nil) itbl_nil fun bs n hs hn => ⟨nAn, p14 m n bs hs hn⟩
theorem o29 (m : Int) : SpecOk PZ (GZ m) 29 s29 := spec_ofW (X := XN) (m := []) [1] mixedZ (tbl_cons (o34 m) tbl_nil) itbl_nil fun args r h' => by
  unfold s29 onBytes at h'
  split at h'
  · split at h'
    · rename_i hz
      split at h'
      · rename_i bs hb
        dsimp only at h'
        split at h'
        · rename_i hp
          injection h' with h'; subst h'
          simp only [wkL, wk1 hz hb]
          exact ⟨nAn, p29 m _ _ hp.1 hp.2⟩
        · cases h'
      · cases h'
    · cases h'
  · cases h'
end Go.Abs

namespace Go.Abs
open Go.Proofs Go.Wire
def shIntR : Sh × Option TypeId := (.tup [.one (.int .i64), .one (.int .i64), .one (.int .i64)], none)
def shUintR : Sh × Option TypeId := (.tup [.one (.int .u64), .one (.int .i64), .one (.int .i64)], none)
def shTextR : Sh × Option TypeId := (.tup [.one .str, .one (.int .i64), .one (.int .i64)], none)
def shValR : Sh × Option TypeId := (.tup [.agg [.int .i64, .int .i64, .str], .one (.int .i64), .one (.int .i64)], none)
def XO : Shapes := fun f => match f with
  | 17 => some shValR
  | 36 => some shIntR
  | 53 => some shUintR
  | 37 => some shTextR
  | 20 | 19 | 21 | 39 | 58 | 7 => some shI
  | 38 => some shB
  | f => XN f
def sintA (bs : List UInt8) (at_ : Int) : Int × Int × Int := if (uintA bs at_).2.2 ≠ 0 then (0, 0, (uintA bs at_).2.2) else (unzig (uintA bs at_).1.toNat, (uintA bs at_).2.1, 0)
def sRd (f : List UInt8 → Int → AV) : Spec := fun args => match args with
  | [.sl sz es _, .int .i64 at_] => if sz = 1 ∨ es = [] then onBytes es fun bs => if strOk bs then some (f bs at_, []) else none else none
  | _ => none
def rInt (x : Int × Int × Int) : AV := .tup [.int .i64 x.1, .int .i64 x.2.1, .int .i64 x.2.2]
def rUint (x : Int × Int × Int) : AV := .tup [.int .u64 x.1, .int .i64 x.2.1, .int .i64 x.2.2]
def rText (x : List UInt8 × Int × Int) : AV := .tup [.str x.1, .int .i64 x.2.1, .int .i64 x.2.2]
def s36 : Spec := sRd fun bs at_ => rInt (sintA bs at_)
structure V3 where
  k : Int
  n : Int
  s : List UInt8
/-- what the bytes say, unchecked: value, place, error -/
def readX (bs : List UInt8) (at_ : Int) : V3 × Int × Int := match bs.drop at_.toNat with
  | [] => (⟨0, 0, []⟩, 0, 41)
  | c :: t =>
      if c.toNat = 0 then (⟨0, 0, []⟩, at_ + 1, 0)
      else if c.toNat = 1 then (match t with | [] => (⟨1, 0, []⟩, 0, 41) | d :: _ => (⟨1, d.toNat, []⟩, at_ + 2, if 1 < d.toNat then 3 else 0))
      else if c.toNat = 2 ∨ c.toNat = 3 then (⟨c.toNat, (sintA bs (at_ + 1)).1, []⟩, (sintA bs (at_ + 1)).2)
      else if c.toNat = 4 ∨ c.toNat = 5 then (⟨c.toNat, 0, (textA bs (at_ + 1)).1⟩, (textA bs (at_ + 1)).2)
      else (⟨c.toNat, 0, []⟩, 0, 3)
def finV (x : V3 × Int × Int) : V3 × Int × Int :=
  let e := if x.2.2 = 0 then checkI x.1.k x.1.n x.1.s else x.2.2
  if e ≠ 0 then (⟨0, 0, []⟩, 0, e) else (x.1, x.2.1, 0)
/-- what Read answers: value, place, error -/
def readV (bs : List UInt8) (at_ : Int) : V3 × Int × Int :=
  if at_ < 0 ∨ (bs.length : Int) < at_ then (⟨0, 0, []⟩, 0, 1) else finV (readX bs at_)
def rVal (x : V3 × Int × Int) : AV := .tup [vA x.1.k x.1.n x.1.s, .int .i64 x.2.1, .int .i64 x.2.2]
def s17 : Spec := sRd fun bs at_ => rVal (readV bs at_)
def cmpI (a b : Int) : Int := if a < b then -1 else if b < a then 1 else 0
def s20 : Spec := fun args => match args with
  | [.int .i64 a, .int .i64 b] => some (.int .i64 (cmpI a b), [])
  | _ => none
end Go.Abs

namespace Go.Abs
open Go.Proofs
theorem w11 (m k n : Int) (bs r s : List UInt8) : (pureW PZ (GZ m) XO (tbl [(9, s9), (14, s14), (29, s29)]) (itbl []) nAn [] 11 [bytesA bs, vA k n s] (ownR r)) =
(((0 : Int) ≤ (0 : Int) ∧
    (0 : Int) ≤ IntKind.i64.wrap ((↑(bytesL bs).length : Int) + (16 : Int)) ∧
      IntKind.i64.wrap ((↑(bytesL bs).length : Int) + (16 : Int)) * (2 : Int) ≤ (70368744177664 : Int)) ∧
  (nat_lit 1 = nat_lit 1 ∨ ([] : List AV) = []) ∧
    (nat_lit 0 + (bytesL bs).length) * nat_lit 2 ≤ nat_lit 70368744177664 ∧
      nat_lit 0 = nat_lit 0 ∧
        ∃ (n_1 : Int),
 CallIs (tbl [(nat_lit 9, s9), (nat_lit 14, s14), (nat_lit 29, s29)] (nat_lit 9) [AV.agg [AV.int IntKind.i64 k, AV.int IntKind.i64 n, AV.str s]])
 (AV.int IntKind.i64 n_1) [] ∧
 ((n_1 != (0 : Int)) = true →
 (nat_lit 0 + (bytesL bs).length, nat_lit 5).fst = ([] ++ bytesL bs).length ∧
 RetIs (AV.sl (nat_lit 1) ([] ++ bytesL bs) (Own.tok (nat_lit 0))) [(nat_lit 0 + (bytesL bs).length, nat_lit 5)]
 (AV.sl (nat_lit 1) (bytesL r) (Own.tok (nat_lit 0)), [(r.length, nat_lit 5)])) ∧
 ((n_1 != (0 : Int)) = false →
 (nat_lit 1 = nat_lit 1 ∨ [] ++ bytesL bs = []) ∧
 (([] ++ bytesL bs).length + (1 : Nat)) * nat_lit 2 ≤ nat_lit 70368744177664 ∧
 nat_lit 0 + (bytesL bs).length = ([] ++ bytesL bs).length ∧
 ((k == (1 : Int)) = true →
 (nat_lit 1 = nat_lit 1 ∨ [] ++ bytesL bs ++ [AV.int IntKind.u8 (IntKind.u8.wrap k)] = []) ∧
 (([] ++ bytesL bs ++ [AV.int IntKind.u8 (IntKind.u8.wrap k)]).length + (1 : Nat)) * nat_lit 2 ≤ nat_lit 70368744177664 ∧
 ([] ++ bytesL bs).length + nat_lit 1 = ([] ++ bytesL bs ++ [AV.int IntKind.u8 (IntKind.u8.wrap k)]).length ∧
 (([] ++ bytesL bs ++ [AV.int IntKind.u8 (IntKind.u8.wrap k)]).length + nat_lit 1, nat_lit 5).fst =
 ([] ++ bytesL bs ++ [AV.int IntKind.u8 (IntKind.u8.wrap k)] ++ [AV.int IntKind.u8 (IntKind.u8.wrap n)]).length ∧
 RetIs
 (AV.sl (nat_lit 1) ([] ++ bytesL bs ++ [AV.int IntKind.u8 (IntKind.u8.wrap k)] ++ [AV.int IntKind.u8 (IntKind.u8.wrap n)])
 (Own.tok (nat_lit 0)))
 [(([] ++ bytesL bs ++ [AV.int IntKind.u8 (IntKind.u8.wrap k)]).length + nat_lit 1, nat_lit 5)]
 (AV.sl (nat_lit 1) (bytesL r) (Own.tok (nat_lit 0)), [(r.length, nat_lit 5)])) ∧
 ((k == (1 : Int)) = false →
 ((k == (2 : Int)) = true →
 ∃ (es : List AV),
 CallIs
 (tbl [(nat_lit 9, s9), (nat_lit 14, s14), (nat_lit 29, s29)] (nat_lit 14)
 [AV.sl (nat_lit 1) ([] ++ bytesL bs ++ [AV.int IntKind.u8 (IntKind.u8.wrap k)]) Own.no, AV.int IntKind.i64 n])
 (AV.sl (nat_lit 1) es (Own.tok (nat_lit 0))) [(es.length, nat_lit 5)] ∧
 (es.length, nat_lit 5).fst = es.length ∧
 RetIs (AV.sl (nat_lit 1) es (Own.tok (nat_lit 0))) [(es.length, nat_lit 5)]
 (AV.sl (nat_lit 1) (bytesL r) (Own.tok (nat_lit 0)), [(r.length, nat_lit 5)])) ∧
 ((k == (2 : Int)) = false →
 ((k == (3 : Int)) = true →
 ∃ (es : List AV),
 CallIs
 (tbl [(nat_lit 9, s9), (nat_lit 14, s14), (nat_lit 29, s29)] (nat_lit 14)
 [AV.sl (nat_lit 1) ([] ++ bytesL bs ++ [AV.int IntKind.u8 (IntKind.u8.wrap k)]) Own.no, AV.int IntKind.i64 n])
 (AV.sl (nat_lit 1) es (Own.tok (nat_lit 0))) [(es.length, nat_lit 5)] ∧
 (es.length, nat_lit 5).fst = es.length ∧
 RetIs (AV.sl (nat_lit 1) es (Own.tok (nat_lit 0))) [(es.length, nat_lit 5)]
 (AV.sl (nat_lit 1) (bytesL r) (Own.tok (nat_lit 0)), [(r.length, nat_lit 5)])) ∧
 ((k == (3 : Int)) = false →
 ((k == (4 : Int)) = true →
 ∃ (es : List AV),
 CallIs
 (tbl [(nat_lit 9, s9), (nat_lit 14, s14), (nat_lit 29, s29)] (nat_lit 29)
 [AV.sl (nat_lit 1) ([] ++ bytesL bs ++ [AV.int IntKind.u8 (IntKind.u8.wrap k)]) Own.no, AV.str s])
 (AV.sl (nat_lit 1) es (Own.tok (nat_lit 0))) [(es.length, nat_lit 5)] ∧
 (es.length, nat_lit 5).fst = es.length ∧
 RetIs (AV.sl (nat_lit 1) es (Own.tok (nat_lit 0))) [(es.length, nat_lit 5)]
 (AV.sl (nat_lit 1) (bytesL r) (Own.tok (nat_lit 0)), [(r.length, nat_lit 5)])) ∧
 ((k == (4 : Int)) = false →
 ((k == (5 : Int)) = true →
 ∃ (es : List AV),
 CallIs
 (tbl [(nat_lit 9, s9), (nat_lit 14, s14), (nat_lit 29, s29)] (nat_lit 29)
 [AV.sl (nat_lit 1) ([] ++ bytesL bs ++ [AV.int IntKind.u8 (IntKind.u8.wrap k)]) Own.no, AV.str s])
 (AV.sl (nat_lit 1) es (Own.tok (nat_lit 0))) [(es.length, nat_lit 5)] ∧
 (es.length, nat_lit 5).fst = es.length ∧
 RetIs (AV.sl (nat_lit 1) es (Own.tok (nat_lit 0))) [(es.length, nat_lit 5)]
 (AV.sl (nat_lit 1) (bytesL r) (Own.tok (nat_lit 0)), [(r.length, nat_lit 5)])) ∧
 ((k == (5 : Int)) = false →
 (([] ++ bytesL bs).length + nat_lit 1, nat_lit 5).fst =
 ([] ++ bytesL bs ++ [AV.int IntKind.u8 (IntKind.u8.wrap k)]).length ∧
 RetIs (AV.sl (nat_lit 1) ([] ++ bytesL bs ++ [AV.int IntKind.u8 (IntKind.u8.wrap k)]) (Own.tok (nat_lit 0)))
 [(([] ++ bytesL bs).length + nat_lit 1, nat_lit 5)]
 (AV.sl (nat_lit 1) (bytesL r) (Own.tok (nat_lit 0)), [(r.length, nat_lit 5)])))))))) := by kernel_rfl
theorem w36 (m at_ : Int) (bs : List UInt8) (r : AV) : (pureW PZ (GZ m) XO (tbl [(53, sReadUint)]) (itbl []) nAn [] 36 [bytesA bs, .int .i64 at_] (r, [])) =
(∃ (n : Int),
  ∃ (n_1 : Int),
    ∃ (n_2 : Int),
      CallIs (tbl [(nat_lit 53, sReadUint)] (nat_lit 53) [AV.sl (nat_lit 1) (bytesL bs) Own.no, AV.int IntKind.i64 at_])
 (AV.tup [AV.int IntKind.u64 n, AV.int IntKind.i64 n_1, AV.int IntKind.i64 n_2]) [] ∧
        ((n_2 != (0 : Int)) = true → RetIs (AV.tup [AV.int IntKind.i64 (0 : Int), AV.int IntKind.i64 (0 : Int), AV.int IntKind.i64 n_2]) [] (r, [])) ∧
 ((n_2 != (0 : Int)) = false →
 (0 : Int) ≤ (1 : Int) ∧
 RetIs
 (AV.tup
 [AV.int IntKind.i64
 (IntKind.i64.wrap
 (↑(BitVec.ofInt IntKind.i64.bits (IntKind.i64.wrap (n.fdiv ((2 : Int) ^ min (Int.toNat (1 : Int)) IntKind.u64.bits))) ^^^
 BitVec.ofInt IntKind.i64.bits
 (IntKind.i64.wrap
 ((0 : Int) -
 IntKind.i64.wrap
 (IntKind.u64.wrap
 (↑((fun (x1 x2 : BitVec IntKind.u64.bits) => x1 &&& x2) (BitVec.ofInt IntKind.u64.bits n)
 (BitVec.ofInt IntKind.u64.bits (1 : Int))).toNat :
 Int))))).toNat :
 Int)),
 AV.int IntKind.i64 n_1, AV.int IntKind.i64 (0 : Int)])
 [] (r, []))) := by kernel_rfl
theorem w38 (m a : Int) (r : AV) : (pureW PZ (GZ m) XO (tbl []) (itbl []) nAn [] 38 [.int .i64 a] (r, [])) =
(((a != a) = true → RetIs (AV.bool true) [] (r, [])) ∧ ((a != a) = false → RetIs (AV.bool false) [] (r, []))) := by kernel_rfl
end Go.Abs

namespace Go.Abs
open Go.Proofs Go.Wire
theorem oneB (k : Int) : [AV.int IntKind.u8 (IntKind.u8.wrap k)] = bytesL [UInt8.ofNat (IntKind.u8.wrap k).toNat] := by
  rw [bytesL_one, ← byteOf_int k]
theorem callSome {x : AV × List (Nat × TypeId)} {r : AV} {lv : List (Nat × TypeId)} (h : x = (r, lv)) : CallIs (some x) r lv := ⟨by rw [h]⟩
theorem own_call {l : List UInt8} {es : List AV} (h : bytesL l = es) : CallIs (some (ownR l)) (.sl 1 es (.tok 0)) [(es.length, 5)] := ⟨by subst h; simp [ownR]⟩
theorem s12_at {k n : Int} {s : List UInt8} (h : strOk s) : s9 [.agg [.int .i64 k, .int .i64 n, .str s]] = some (.int .i64 (checkI k n s), []) := by
  simp only [s9, sVal, h, if_true]
theorem strOk_app {bs s : List UInt8} (h : bs.length + s.length ≤ 1000000) : strOk (bs ++ s) := by show (bs ++ s).length ≤ 1000000; simpa using h
theorem p11 (m k n : Int) (bs s : List UInt8) (hb : smallOk bs) (hs : strOk s) (hn : i64Ok n) : PureOk PZ (GZ m) XO (tbl [(9, s9), (14, s14), (29, s29)]) (itbl []) nAn [] 11 [bytesA bs, vA k n s] (ownR (appL bs k n s)) := by
  have h1 : bs.length ≤ 900000 := hb
  have h2 := hs
  constructor
  generalize hr : appL bs k n s = r
  unfold appL at hr
  have t1 : tbl [(9, s9), (14, s14), (29, s29)] 9 [.agg [.int .i64 k, .int .i64 n, .str s]] = some (.int .i64 (checkI k n s), []) := by rw [tbl_hit, s12_at hs]
  have hw : IntKind.i64.wrap ((bs.length : Int) + 16) = bs.length + 16 := wrap64_in (by omega) (by omega)
  have ho : ∀ x : UInt8, strOk (bs ++ [x]) := fun x => strOk_app (by simp; omega)
  rw [w11]
  simp only [t1, hw, List.nil_append, oneB, ← bytesL_append, bytesL_length, callIs_iff, Option.some.injEq, Prod.mk.injEq, AV.int.injEq, true_and, and_true, true_or, beq_iff_eq, beq_eq_false_iff_ne, bne_iff_ne, bne_eq_false_iff_eq, ne_eq, exists_eq_left', Nat.zero_add, List.length_append, List.length_cons, List.length_nil]
  refine ⟨by omega, by omega, fun h => ?_, fun h => ⟨by omega, fun h1' => ⟨by omega, ?_⟩, fun h1' => ⟨fun h2' => ?_, fun h2' => ⟨fun h3' => ?_, fun h3' => ⟨fun h4' => ?_, fun h4' => ⟨fun h5' => ?_, fun h5' => ?_⟩⟩⟩⟩⟩⟩
  · rw [if_neg (by simp [validB, h]), List.append_nil] at hr
    exact ⟨by subst hr; rfl⟩
  all_goals rw [if_pos (by simp [validB, h])] at hr
  all_goals unfold encL at hr
  · rw [if_pos h1'] at hr
    refine ⟨by subst hr; simp⟩
  · rw [if_neg h1', if_pos (.inl h2')] at hr
    refine ⟨bytesL r, ?_, ⟨by simp []⟩⟩
    rw [tbl_miss (by decide), tbl_hit, s38_at (ho _) hn, ← hr]
    simp [ownR, bytesL]
  · rw [if_neg h1', if_pos (.inr h3')] at hr
    refine ⟨bytesL r, ?_, ⟨by simp []⟩⟩
    rw [tbl_miss (by decide), tbl_hit, s38_at (ho _) hn, ← hr]
    simp [ownR, bytesL]
  · rw [if_neg h1', if_neg (by omega), if_pos (.inl h4')] at hr
    refine ⟨bytesL r, ?_, ⟨by simp []⟩⟩
    rw [tbl_miss (by decide), tbl_miss (by decide), tbl_hit, s39_at (ho _) hs, ← hr]
    simp [ownR, bytesL]
  · rw [if_neg h1', if_neg (by omega), if_pos (.inr h5')] at hr
    refine ⟨bytesL r, ?_, ⟨by simp []⟩⟩
    rw [tbl_miss (by decide), tbl_miss (by decide), tbl_hit, s39_at (ho _) hs, ← hr]
    simp [ownR, bytesL]
  · rw [if_neg h1', if_neg (by omega), if_neg (by omega)] at hr
    exact ⟨by subst hr; simp⟩
theorem valid_len {k n : Int} {s : List UInt8} (h : validB k n s = true) (_hs : strOk s) (hn : i64Ok n) : (encL k n s).length ≤ 300 := by
  have h1 := zig_len hn
  have hc : checkI k n s = 0 := by simpa [validB] using h
  unfold checkI at hc
  split at hc
  · cases hc
  · split at hc
    · cases hc
    · rename_i h2 h3
      unfold encL
      split
      · simp
      · split
        · simp; omega
        · split
          · have : s.length ≤ 64 := by
              by_cases h4 : k = 4
              · exact Nat.le_of_not_lt fun h => h3 (.inr (.inl ⟨h4, h⟩))
              · have : s.length ≤ 32 := Nat.le_of_not_lt fun h => h3 (.inr (.inr ⟨by omega, h⟩))
                omega
            have h5 := uintL_len10 (n := s.length) (by omega)
            simp [textL]; omega
          · simp
theorem sApp_of {X : Shapes} {R : Callee} {C : CCallee} {m : Int} {g : FuncId} {f : List UInt8 → AV × List (Nat × TypeId)} (hR : CalleeOk PZ (GZ m) R) (hC : ICalleeOk PZ (GZ m) (lowC C))
    (h : ∀ bs k n s, smallOk bs → strOk s → i64Ok n → ∃ A, PureOk PZ (GZ m) X R C A [] g [bytesA bs, vA k n s] (f (appL bs k n s))) : SpecOk PZ (GZ m) g (sApp f) := spec_ofW (X := X) (m := []) [1] mixedZ hR hC fun args r h' => by
  unfold sApp onBytes at h'
  split at h'
  · split at h'
    · rename_i hz
      split at h'
      · rename_i bs hb
        dsimp only at h'
        split at h'
        · rename_i hp
          injection h' with h'; subst h'
          simp only [wkL, wk1 hz hb]
          exact h _ _ _ _ hp.1 hp.2.1 hp.2.2
        · cases h'
      · cases h'
    · cases h'
  · cases h'
theorem o11 (m : Int) : SpecOk PZ (GZ m) 11 s11 := sApp_of (X := XO) (tbl_cons (o9 m) (tbl_cons (o14 m) (tbl_cons (o29 m) tbl_nil))) itbl_nil fun bs k n s hb hs hn => ⟨nAn, p11 m k n bs s hb hs hn⟩
end Go.Abs

namespace Go.Abs
open Go.Proofs Go.Wire
theorem sReadUint_at {bs : List UInt8} {at_ : Int} {o : Own} (h : strOk bs) : sReadUint [.sl 1 (bytesL bs) o, .int .i64 at_] = some (rUint (uintA bs at_), []) := by
  have h1 : bs.length ≤ 1000000 := h
  have h2 : lenOk bs := by show (bs.length : Int) ≤ _; omega
  simp only [sReadUint, true_or, if_true, unBytes_mk, Option.bind_some, h2, rUint]
theorem sRd_at {f : List UInt8 → Int → AV} {bs : List UInt8} {at_ : Int} {o : Own} (h : strOk bs) : sRd f [.sl 1 (bytesL bs) o, .int .i64 at_] = some (f bs at_, []) := by
  simp only [sRd, onBytes, unBytes_mk, true_or, if_true, h]
theorem uintA_bound {bs : List UInt8} {at_ : Int} : 0 ≤ (uintA bs at_).1 ∧ (uintA bs at_).1 < 18446744073709551616 := by
  unfold uintA
  split
  · simp
  · split
    · simp
    · rename_i v m h
      have := (uintP_bound _ _ _ _ h).1
      have e : 2 ^ (7 * (10 - 1) + 1) = 18446744073709551616 := by decide
      simp only []
      omega
theorem unzig_bits {v : Nat} (h : v < 18446744073709551616) : IntKind.i64.wrap
 (↑(BitVec.ofInt IntKind.i64.bits (IntKind.i64.wrap ((v : Int).fdiv ((2 : Int) ^ min (Int.toNat (1 : Int)) IntKind.u64.bits))) ^^^
 BitVec.ofInt IntKind.i64.bits
 (IntKind.i64.wrap
 ((0 : Int) -
 IntKind.i64.wrap
 (IntKind.u64.wrap
 (↑(BitVec.ofInt IntKind.u64.bits (v : Int) &&&
 BitVec.ofInt IntKind.u64.bits (1 : Int)).toNat :
 Int))))).toNat :
 Int) = unzig v := by
  have e1 : IntKind.u64.bits = 64 := rfl
  have e2 : IntKind.i64.bits = 64 := rfl
  rw [e1, e2, show min (Int.toNat 1) 64 = 1 by decide, Int.pow_succ, Int.pow_zero, Int.one_mul, Int.fdiv_eq_ediv_of_nonneg _ (by omega)]
  have e3 : (BitVec.ofInt 64 (v : Int) &&& BitVec.ofInt 64 (1 : Int)).toNat = v % 2 := by
    have : BitVec.ofInt 64 (1 : Int) = BitVec.ofNat 64 1 := by decide
    rw [this, BitVec.ofInt_natCast, BitVec.toNat_and, BitVec.toNat_ofNat, BitVec.toNat_ofNat, show 1 % 2 ^ 64 = 1 by decide, Nat.and_one_is_mod]
    omega
  rw [e3]
  have e4 : (v : Int) / 2 = ((v / 2 : Nat) : Int) := by omega
  have e5 : IntKind.i64.wrap ((v / 2 : Nat) : Int) = ((v / 2 : Nat) : Int) := wrap64_in (by omega) (by omega)
  have e6 : IntKind.i64.wrap (IntKind.u64.wrap ((v % 2 : Nat) : Int)) = ((v % 2 : Nat) : Int) := by
    rw [wrapu64]; rw [wrap64_in (by omega) (by omega)]; omega
  rw [e4, e5, e6, BitVec.ofInt_natCast]
  unfold unzig
  rcases Nat.mod_two_eq_zero_or_one v with h0 | h0
  · rw [h0, if_neg (by omega)]
    have : BitVec.ofInt 64 (IntKind.i64.wrap (0 - ((0 : Nat) : Int))) = 0#64 := by decide
    rw [this, BitVec.xor_zero, BitVec.toNat_ofNat, Nat.mod_eq_of_lt (by omega), e5]
  · rw [h0, if_pos rfl]
    have : BitVec.ofInt 64 (IntKind.i64.wrap (0 - ((1 : Nat) : Int))) = BitVec.allOnes 64 := by decide
    rw [this, bv_neg _ (by omega), wrapi64]
    omega
theorem p36 (m at_ : Int) (bs : List UInt8) (hb : strOk bs) : PureOk PZ (GZ m) XO (tbl [(53, sReadUint)]) (itbl []) nAn [] 36 [bytesA bs, .int .i64 at_] (rInt (sintA bs at_), []) := by
  constructor
  rw [w36, tbl_hit, sReadUint_at hb]
  obtain ⟨h0, h1⟩ := uintA_bound (bs := bs) (at_ := at_)
  refine ⟨_, _, _, callSome rfl, ?_, ?_⟩
  all_goals simp only [bne_iff_ne, bne_eq_false_iff_eq, ne_eq]
  · intro h
    refine ⟨?_⟩
    unfold sintA; rw [if_pos h]; rfl
  · intro h
    refine ⟨by omega, ⟨?_⟩⟩
    unfold sintA; rw [if_neg (by omega)]
    obtain ⟨v, hv⟩ : ∃ v : Nat, (uintA bs at_).1 = v := ⟨(uintA bs at_).1.toNat, by omega⟩
    rw [hv] at h1 ⊢
    rw [unzig_bits (by omega)]; rfl
theorem mapM_byteL : ∀ l : List UInt8, List.mapM byteOf (bytesL l) = some l
  | [] => rfl
  | c :: l => by
    have h := mapM_byteL l
    have hc := c.toNat_lt
    simp only [bytesL, List.map_cons, List.mapM_cons] at h ⊢
    rw [h]
    simp [byteOf]
end Go.Abs

namespace Go.Abs
open Go.Proofs Go.Wire
structure IX (bs : List UInt8) (at_ : Int) (x : V3 × Int × Int) : Prop where
  e : x.2.2 = (readX bs at_).2.2
  o : x.2.2 = 0 → x = readX bs at_
def vC (x : V3) : List AV := [.int .i64 x.k, .int .i64 x.n, .str x.s]
def a17 (bs : List UInt8) (at_ : Int) : Anns := ⟨fun q => match q with
  | 1000023 => some { α := V3 × Int × Int, slots := [4, 5, 6], nb := 1, vals := fun x => [.ptr 0 0, .int .i64 x.2.1, .int .i64 x.2.2], sS := fun x => ⟨[some (vC x.1)], []⟩, I := IX bs at_, μ := fun _ => 0 }
  | _ => none, nA⟩
end Go.Abs

namespace Go.Abs
open Go.Proofs
theorem w17 (m at_ : Int) (bs : List UInt8) (r : AV) : (pureW PZ (GZ m) XO (tbl [(9, s9), (36, s36), (37, sReadText)]) (itbl []) (a17 bs at_) [] 17 [bytesA bs, .int .i64 at_] (r, [])) =
((decide (at_ < (0 : Int)) = true →
    RetIs (AV.tup [AV.agg [AV.int IntKind.i64 (0 : Int), AV.int IntKind.i64 (0 : Int), AV.str []], AV.int IntKind.i64 (0 : Int), AV.int IntKind.i64 (1 : Int)])
      [] (r, [])) ∧
  (decide (at_ < (0 : Int)) = false →
    (decide (at_ > (↑(bytesL bs).length : Int)) = true →
        RetIs
 (AV.tup [AV.agg [AV.int IntKind.i64 (0 : Int), AV.int IntKind.i64 (0 : Int), AV.str []], AV.int IntKind.i64 (0 : Int), AV.int IntKind.i64 (1 : Int)])
 [] (r, [])) ∧
      (decide (at_ > (↑(bytesL bs).length : Int)) = false →
        ((at_ == (↑(bytesL bs).length : Int)) = true →
 RetIs
 (AV.tup
 [AV.agg [AV.int IntKind.i64 (0 : Int), AV.int IntKind.i64 (0 : Int), AV.str []], AV.int IntKind.i64 (0 : Int), AV.int IntKind.i64 (41 : Int)])
 [] (r, [])) ∧
 ((at_ == (↑(bytesL bs).length : Int)) = false →
 ((0 : Int) ≤ at_ ∧ at_ < (↑(bytesL bs).length : Int)) ∧
 ∃ (n : Int),
 takeAt PZ (nat_lit 5) (bytesL bs) at_.toNat (nat_lit 0) = some (AV.int IntKind.u8 n) ∧
 (((IntKind.i64.wrap n == (0 : Int)) = true →
 ∃ (y : V3 × Int × Int),
 ValsAre [AV.ptr (nat_lit 0) (nat_lit 0), AV.int IntKind.i64 (IntKind.i64.wrap (at_ + (1 : Int))), AV.int IntKind.i64 (0 : Int)]
 [AV.ptr (nat_lit 0) (nat_lit 0), AV.int IntKind.i64 y.snd.fst, AV.int IntKind.i64 y.snd.snd] ∧
 StIs { boxes := [some [AV.int IntKind.i64 (IntKind.i64.wrap n), AV.int IntKind.i64 (0 : Int), AV.str []]], live := [] }
 { boxes := [some [AV.int IntKind.i64 y.fst.k, AV.int IntKind.i64 y.fst.n, AV.str y.fst.s]], live := [] } ∧
 IX bs at_ y ∧ True) ∧
 ((IntKind.i64.wrap n == (0 : Int)) = false →
 ((IntKind.i64.wrap n == (1 : Int)) = true →
 ((IntKind.i64.wrap (at_ + (1 : Int)) == (↑(bytesL bs).length : Int)) = true →
 ∃ (y : V3 × Int × Int),
 ValsAre
 [AV.ptr (nat_lit 0) (nat_lit 0), AV.int IntKind.i64 (IntKind.i64.wrap (IntKind.i64.wrap (at_ + (1 : Int)) + (1 : Int))),
 AV.int IntKind.i64 (41 : Int)]
 [AV.ptr (nat_lit 0) (nat_lit 0), AV.int IntKind.i64 y.snd.fst, AV.int IntKind.i64 y.snd.snd] ∧
 StIs { boxes := [some [AV.int IntKind.i64 (IntKind.i64.wrap n), AV.int IntKind.i64 (0 : Int), AV.str []]], live := [] }
 { boxes := [some [AV.int IntKind.i64 y.fst.k, AV.int IntKind.i64 y.fst.n, AV.str y.fst.s]], live := [] } ∧
 IX bs at_ y ∧ True) ∧
 ((IntKind.i64.wrap (at_ + (1 : Int)) == (↑(bytesL bs).length : Int)) = false →
 ((0 : Int) ≤ IntKind.i64.wrap (at_ + (1 : Int)) ∧ IntKind.i64.wrap (at_ + (1 : Int)) < (↑(bytesL bs).length : Int)) ∧
 ∃ (n_1 : Int),
 takeAt PZ (nat_lit 5) (bytesL bs) (IntKind.i64.wrap (at_ + (1 : Int))).toNat (nat_lit 0) = some (AV.int IntKind.u8 n_1) ∧
 (decide (IntKind.i64.wrap n_1 > (1 : Int)) = true →
 ∃ (y : V3 × Int × Int),
 ValsAre
 [AV.ptr (nat_lit 0) (nat_lit 0),
 AV.int IntKind.i64 (IntKind.i64.wrap (IntKind.i64.wrap (at_ + (1 : Int)) + (1 : Int))),
 AV.int IntKind.i64 (3 : Int)]
 [AV.ptr (nat_lit 0) (nat_lit 0), AV.int IntKind.i64 y.snd.fst, AV.int IntKind.i64 y.snd.snd] ∧
 StIs
 { boxes := [some [AV.int IntKind.i64 (IntKind.i64.wrap n), AV.int IntKind.i64 (IntKind.i64.wrap n_1), AV.str []]], live := [] }
 { boxes := [some [AV.int IntKind.i64 y.fst.k, AV.int IntKind.i64 y.fst.n, AV.str y.fst.s]], live := [] } ∧
 IX bs at_ y ∧ True) ∧
 (decide (IntKind.i64.wrap n_1 > (1 : Int)) = false →
 ∃ (y : V3 × Int × Int),
 ValsAre
 [AV.ptr (nat_lit 0) (nat_lit 0),
 AV.int IntKind.i64 (IntKind.i64.wrap (IntKind.i64.wrap (at_ + (1 : Int)) + (1 : Int))),
 AV.int IntKind.i64 (0 : Int)]
 [AV.ptr (nat_lit 0) (nat_lit 0), AV.int IntKind.i64 y.snd.fst, AV.int IntKind.i64 y.snd.snd] ∧
 StIs
 { boxes := [some [AV.int IntKind.i64 (IntKind.i64.wrap n), AV.int IntKind.i64 (IntKind.i64.wrap n_1), AV.str []]], live := [] }
 { boxes := [some [AV.int IntKind.i64 y.fst.k, AV.int IntKind.i64 y.fst.n, AV.str y.fst.s]], live := [] } ∧
 IX bs at_ y ∧ True))) ∧
 ((IntKind.i64.wrap n == (1 : Int)) = false →
 ((IntKind.i64.wrap n == (2 : Int)) = true →
 ∃ (n_1 : Int),
 ∃ (n_2 : Int),
 ∃ (n_3 : Int),
 CallIs
 (tbl [(nat_lit 9, s9), (nat_lit 36, s36), (nat_lit 37, sReadText)] (nat_lit 36)
 [AV.sl (nat_lit 1) (bytesL bs) Own.no, AV.int IntKind.i64 (IntKind.i64.wrap (at_ + (1 : Int)))])
 (AV.tup [AV.int IntKind.i64 n_1, AV.int IntKind.i64 n_2, AV.int IntKind.i64 n_3]) [] ∧
 ∃ (y : V3 × Int × Int),
 ValsAre [AV.ptr (nat_lit 0) (nat_lit 0), AV.int IntKind.i64 n_2, AV.int IntKind.i64 n_3]
 [AV.ptr (nat_lit 0) (nat_lit 0), AV.int IntKind.i64 y.snd.fst, AV.int IntKind.i64 y.snd.snd] ∧
 StIs { boxes := [some [AV.int IntKind.i64 (IntKind.i64.wrap n), AV.int IntKind.i64 n_1, AV.str []]], live := [] }
 { boxes := [some [AV.int IntKind.i64 y.fst.k, AV.int IntKind.i64 y.fst.n, AV.str y.fst.s]], live := [] } ∧
 IX bs at_ y ∧ True) ∧
 ((IntKind.i64.wrap n == (2 : Int)) = false →
 ((IntKind.i64.wrap n == (3 : Int)) = true →
 ∃ (n_1 : Int),
 ∃ (n_2 : Int),
 ∃ (n_3 : Int),
 CallIs
 (tbl [(nat_lit 9, s9), (nat_lit 36, s36), (nat_lit 37, sReadText)] (nat_lit 36)
 [AV.sl (nat_lit 1) (bytesL bs) Own.no, AV.int IntKind.i64 (IntKind.i64.wrap (at_ + (1 : Int)))])
 (AV.tup [AV.int IntKind.i64 n_1, AV.int IntKind.i64 n_2, AV.int IntKind.i64 n_3]) [] ∧
 ∃ (y : V3 × Int × Int),
 ValsAre [AV.ptr (nat_lit 0) (nat_lit 0), AV.int IntKind.i64 n_2, AV.int IntKind.i64 n_3]
 [AV.ptr (nat_lit 0) (nat_lit 0), AV.int IntKind.i64 y.snd.fst, AV.int IntKind.i64 y.snd.snd] ∧
 StIs
 { boxes := [some [AV.int IntKind.i64 (IntKind.i64.wrap n), AV.int IntKind.i64 n_1, AV.str []]], live := [] }
 { boxes := [some [AV.int IntKind.i64 y.fst.k, AV.int IntKind.i64 y.fst.n, AV.str y.fst.s]], live := [] } ∧
 IX bs at_ y ∧ True) ∧
 ((IntKind.i64.wrap n == (3 : Int)) = false →
 ((IntKind.i64.wrap n == (4 : Int)) = true →
 ∃ (s : List UInt8),
 ∃ (n_1 : Int),
 ∃ (n_2 : Int),
 CallIs
 (tbl [(nat_lit 9, s9), (nat_lit 36, s36), (nat_lit 37, sReadText)] (nat_lit 37)
 [AV.sl (nat_lit 1) (bytesL bs) Own.no, AV.int IntKind.i64 (IntKind.i64.wrap (at_ + (1 : Int)))])
 (AV.tup [AV.str s, AV.int IntKind.i64 n_1, AV.int IntKind.i64 n_2]) [] ∧
 ∃ (y : V3 × Int × Int),
 ValsAre [AV.ptr (nat_lit 0) (nat_lit 0), AV.int IntKind.i64 n_1, AV.int IntKind.i64 n_2]
 [AV.ptr (nat_lit 0) (nat_lit 0), AV.int IntKind.i64 y.snd.fst, AV.int IntKind.i64 y.snd.snd] ∧
 StIs
 { boxes := [some [AV.int IntKind.i64 (IntKind.i64.wrap n), AV.int IntKind.i64 (0 : Int), AV.str s]], live := [] }
 { boxes := [some [AV.int IntKind.i64 y.fst.k, AV.int IntKind.i64 y.fst.n, AV.str y.fst.s]], live := [] } ∧
 IX bs at_ y ∧ True) ∧
 ((IntKind.i64.wrap n == (4 : Int)) = false →
 ((IntKind.i64.wrap n == (5 : Int)) = true →
 ∃ (s : List UInt8),
 ∃ (n_1 : Int),
 ∃ (n_2 : Int),
 CallIs
 (tbl [(nat_lit 9, s9), (nat_lit 36, s36), (nat_lit 37, sReadText)] (nat_lit 37)
 [AV.sl (nat_lit 1) (bytesL bs) Own.no, AV.int IntKind.i64 (IntKind.i64.wrap (at_ + (1 : Int)))])
 (AV.tup [AV.str s, AV.int IntKind.i64 n_1, AV.int IntKind.i64 n_2]) [] ∧
 ∃ (y : V3 × Int × Int),
 ValsAre [AV.ptr (nat_lit 0) (nat_lit 0), AV.int IntKind.i64 n_1, AV.int IntKind.i64 n_2]
 [AV.ptr (nat_lit 0) (nat_lit 0), AV.int IntKind.i64 y.snd.fst, AV.int IntKind.i64 y.snd.snd] ∧
 StIs
 { boxes := [some [AV.int IntKind.i64 (IntKind.i64.wrap n), AV.int IntKind.i64 (0 : Int), AV.str s]], live := [] }
 { boxes := [some [AV.int IntKind.i64 y.fst.k, AV.int IntKind.i64 y.fst.n, AV.str y.fst.s]], live := [] } ∧
 IX bs at_ y ∧ True) ∧
 ((IntKind.i64.wrap n == (5 : Int)) = false →
 ∃ (y : V3 × Int × Int),
 ValsAre
 [AV.ptr (nat_lit 0) (nat_lit 0), AV.int IntKind.i64 (IntKind.i64.wrap (at_ + (1 : Int))),
 AV.int IntKind.i64 (3 : Int)]
 [AV.ptr (nat_lit 0) (nat_lit 0), AV.int IntKind.i64 y.snd.fst, AV.int IntKind.i64 y.snd.snd] ∧
 StIs
 { boxes := [some [AV.int IntKind.i64 (IntKind.i64.wrap n), AV.int IntKind.i64 (0 : Int), AV.str []]], live := [] }
 { boxes := [some [AV.int IntKind.i64 y.fst.k, AV.int IntKind.i64 y.fst.n, AV.str y.fst.s]], live := [] } ∧
 IX bs at_ y ∧ True))))))) ∧
 ∀ (x : V3 × Int × Int),
 IX bs at_ x →
 True →
 ((x.snd.snd == (0 : Int)) = true →
 ∃ (n : Int),
 CallIs
 (tbl [(nat_lit 9, s9), (nat_lit 36, s36), (nat_lit 37, sReadText)] (nat_lit 9)
 [AV.agg [AV.int IntKind.i64 x.fst.k, AV.int IntKind.i64 x.fst.n, AV.str x.fst.s]])
 (AV.int IntKind.i64 n) [] ∧
 ((n != (0 : Int)) = true →
 RetIs
 (AV.tup
 [AV.agg [AV.int IntKind.i64 (0 : Int), AV.int IntKind.i64 (0 : Int), AV.str []], AV.int IntKind.i64 (0 : Int),
 AV.int IntKind.i64 n])
 [] (r, [])) ∧
 ((n != (0 : Int)) = false →
 RetIs
 (AV.tup
 [AV.agg [AV.int IntKind.i64 x.fst.k, AV.int IntKind.i64 x.fst.n, AV.str x.fst.s], AV.int IntKind.i64 x.snd.fst,
 AV.int IntKind.i64 (0 : Int)])
 [] (r, []))) ∧
 ((x.snd.snd == (0 : Int)) = false →
 ((x.snd.snd != (0 : Int)) = true →
 RetIs
 (AV.tup
 [AV.agg [AV.int IntKind.i64 (0 : Int), AV.int IntKind.i64 (0 : Int), AV.str []], AV.int IntKind.i64 (0 : Int),
 AV.int IntKind.i64 x.snd.snd])
 [] (r, [])) ∧
 ((x.snd.snd != (0 : Int)) = false →
 RetIs
 (AV.tup
 [AV.agg [AV.int IntKind.i64 x.fst.k, AV.int IntKind.i64 x.fst.n, AV.str x.fst.s], AV.int IntKind.i64 x.snd.fst,
 AV.int IntKind.i64 (0 : Int)])
 [] (r, []))))))) := by kernel_rfl
end Go.Abs

namespace Go.Abs
open Go.Proofs Go.Wire
theorem agg5 : aggA PZ 5 = some false := by kernel_rfl
theorem size5 : (sizeA PZ 5).isSome = true := by kernel_rfl
end Go.Abs

namespace Go.Abs
open Go.Proofs Go.Wire
theorem drop_cons {bs : List UInt8} {a : Nat} (h : a < bs.length) : bs.drop a = bs.getD a 0 :: bs.drop (a + 1) := by
  rw [List.drop_eq_getElem_cons h, List.getD_eq_getElem?_getD, List.getElem?_eq_getElem h]; rfl
section
variable {bs : List UInt8} {a : Nat}
theorem readX_0 (h : a < bs.length) (hc : (bs.getD a 0).toNat = 0) : readX bs a = (⟨(bs.getD a 0).toNat, 0, []⟩, ((a + 1 : Nat) : Int), 0) := by
  unfold readX; rw [Int.toNat_natCast, drop_cons h]; simp only [hc, if_true]; rfl
theorem readX_1e (h : a + 1 = bs.length) (hc : (bs.getD a 0).toNat = 1) : readX bs a = (⟨1, 0, []⟩, 0, 41) := by
  unfold readX; rw [Int.toNat_natCast, drop_cons (by omega), List.drop_eq_nil_of_le (by omega)]; simp only [hc]; rfl
theorem readX_1 (h : a + 1 < bs.length) (hc : (bs.getD a 0).toNat = 1) : readX bs a = (⟨(bs.getD a 0).toNat, (bs.getD (a + 1) 0).toNat, []⟩, (a : Int) + 2, if 1 < (bs.getD (a + 1) 0).toNat then 3 else 0) := by
  unfold readX; rw [Int.toNat_natCast, drop_cons (by omega), drop_cons h]; simp only [hc]; rfl
theorem readX_n (h : a < bs.length) (hc : (bs.getD a 0).toNat = 2 ∨ (bs.getD a 0).toNat = 3) : readX bs a = (⟨(bs.getD a 0).toNat, (sintA bs ((a + 1 : Nat) : Int)).1, []⟩, (sintA bs ((a + 1 : Nat) : Int)).2) := by
  unfold readX; rw [Int.toNat_natCast, drop_cons h]; simp only []
  rw [if_neg (by omega), if_neg (by omega), if_pos hc]; rfl
theorem readX_t (h : a < bs.length) (hc : (bs.getD a 0).toNat = 4 ∨ (bs.getD a 0).toNat = 5) : readX bs a = (⟨(bs.getD a 0).toNat, 0, (textA bs ((a + 1 : Nat) : Int)).1⟩, (textA bs ((a + 1 : Nat) : Int)).2) := by
  unfold readX; rw [Int.toNat_natCast, drop_cons h]; simp only []
  rw [if_neg (by omega), if_neg (by omega), if_neg (by omega), if_pos hc]; rfl
theorem readX_x (h : a < bs.length) (hc : 5 < (bs.getD a 0).toNat) : readX bs a = (⟨(bs.getD a 0).toNat, 0, []⟩, 0, 3) := by
  unfold readX; rw [Int.toNat_natCast, drop_cons h]; simp only []
  rw [if_neg (by omega), if_neg (by omega), if_neg (by omega), if_neg (by omega)]
end
theorem IX.same {bs : List UInt8} {at_ : Int} {x : V3 × Int × Int} (h : x = readX bs at_) : IX bs at_ x := ⟨by rw [h], fun _ => h⟩
theorem IX.bad {bs : List UInt8} {at_ : Int} {x : V3 × Int × Int} {e : Int} (h : (readX bs at_).2.2 = e) (h1 : x.2.2 = e) (h2 : e ≠ 0) : IX bs at_ x := ⟨by rw [h, h1], fun h3 => absurd (h1.symm.trans h3) h2⟩
/-- how a reader ends -/
theorem endV {bs : List UInt8} {at_ : Int} {x : V3 × Int × Int} {r : AV} (hx : IX bs at_ x) (hs : x.2.2 = 0 → strOk x.1.s) (hr : rVal (finV (readX bs at_)) = r)
    {t : List (FuncId × Spec)} {f : FuncId} (ht : ∀ k n s, strOk s → tbl t f [.agg [.int .i64 k, .int .i64 n, .str s]] = some (.int .i64 (checkI k n s), [])) :
    (x.2.2 = 0 → ∃ n, tbl t f [.agg [.int .i64 x.1.k, .int .i64 x.1.n, .str x.1.s]] = some (.int .i64 n, []) ∧
      (¬ n = 0 → RetIs (AV.tup [.agg [.int .i64 0, .int .i64 0, .str []], .int .i64 0, .int .i64 n]) [] (r, [])) ∧
      (n = 0 → RetIs (AV.tup [.agg [.int .i64 x.1.k, .int .i64 x.1.n, .str x.1.s], .int .i64 x.2.1, .int .i64 0]) [] (r, []))) ∧
    (¬ x.2.2 = 0 → (¬ x.2.2 = 0 → RetIs (AV.tup [.agg [.int .i64 0, .int .i64 0, .str []], .int .i64 0, .int .i64 x.2.2]) [] (r, [])) ∧
      (x.2.2 = 0 → RetIs (AV.tup [.agg [.int .i64 x.1.k, .int .i64 x.1.n, .str x.1.s], .int .i64 x.2.1, .int .i64 0]) [] (r, []))) := by
  refine ⟨fun h => ⟨_, ht _ _ _ (hs h), fun hn => ⟨?_⟩, fun hn => ⟨?_⟩⟩, fun h => ⟨fun _ => ⟨?_⟩, fun h2 => absurd h2 h⟩⟩
  · rw [← hr, ← hx.o h]; unfold finV; simp only []; rw [if_pos h, if_pos hn]; rfl
  · rw [← hr, ← hx.o h]; unfold finV; simp only []; rw [if_pos h, if_neg (by rw [hn]; simp)]; rfl
  · rw [← hr]; unfold finV; simp only []; rw [← hx.e, if_neg h, if_pos h]; rfl
theorem textA_len {bs : List UInt8} {at_ : Int} : (textA bs at_).1.length ≤ bs.length := by
  unfold textA
  split
  · simp
  · split
    · simp
    · rename_i l m h
      unfold Z05.textR at h
      split at h
      · cases h
      · split at h
        · cases h
        · injection h with h
          injection h with h1 h2
          rw [← h1]; simp; omega
theorem readX_str {bs : List UInt8} {at_ : Int} (hb : strOk bs) : strOk (readX bs at_).1.s := by
  unfold readX
  split
  · show ([] : List UInt8).length ≤ _; simp
  · split
    · show ([] : List UInt8).length ≤ _; simp
    · split
      · split
        · show ([] : List UInt8).length ≤ _; simp
        · show ([] : List UInt8).length ≤ _; simp
      · split
        · show ([] : List UInt8).length ≤ _; simp
        · split
          · exact Nat.le_trans textA_len hb
          · show ([] : List UInt8).length ≤ _; simp
theorem p17 (m at_ : Int) (bs : List UInt8) (hb : strOk bs) : PureOk PZ (GZ m) XO (tbl [(9, s9), (36, s36), (37, sReadText)]) (itbl []) (a17 bs at_) [] 17 [bytesA bs, .int .i64 at_] (rVal (readV bs at_), []) := by
  have hb' : bs.length ≤ 1000000 := hb
  have hl : lenOk bs := by show (bs.length : Int) ≤ _; omega
  constructor
  generalize hr : rVal (readV bs at_) = r
  have ht : ∀ k n s, strOk s → tbl [(9, s9), (36, s36), (37, sReadText)] 9 [.agg [.int .i64 k, .int .i64 n, .str s]] = some (.int .i64 (checkI k n s), []) := fun k n s hs => by rw [tbl_hit, s12_at hs]
  have t2 : ∀ i, tbl [(9, s9), (36, s36), (37, sReadText)] 36 [.sl 1 (bytesL bs) .no, .int .i64 i] = some (rInt (sintA bs i), []) := fun i => by rw [tbl_miss (by decide), tbl_hit]; exact sRd_at hb
  have t3 : ∀ i, tbl [(9, s9), (36, s36), (37, sReadText)] 37 [.sl 1 (bytesL bs) .no, .int .i64 i] = some (rText (textA bs i), []) := fun i => by
    rw [tbl_miss (by decide), tbl_miss (by decide), tbl_hit]; simp only [sReadText, true_or, if_true, unBytes_mk, Option.bind_some, hl, rText]
  rw [w17]
  simp only [t2, t3, rInt, rText, bytesL_length, take_u8_iff agg5 size5, callIs_iff, Option.some.injEq, Prod.mk.injEq, AV.int.injEq, AV.tup.injEq, AV.str.injEq, List.cons.injEq, valsAre_iff, stIs_iff, St.mk.injEq, true_and, and_true, beq_iff_eq, beq_eq_false_iff_ne, bne_iff_ne, bne_eq_false_iff_eq, ne_eq, decide_eq_true_eq, decide_eq_false_iff_not, gt_iff_lt, true_imp_iff]
  unfold readV at hr
  refine ⟨fun h => ⟨?_⟩, fun h => ⟨fun h1 => ⟨?_⟩, fun h1 => ⟨fun h2 => ⟨?_⟩, fun h2 => ⟨by omega, ?_⟩⟩⟩⟩
  · rw [if_pos (.inl h)] at hr; rw [← hr]; rfl
  · rw [if_pos (.inr h1)] at hr; rw [← hr]; rfl
  · rw [if_neg (by omega)] at hr
    have : readX bs at_ = (⟨0, 0, []⟩, 0, 41) := by unfold readX; rw [List.drop_eq_nil_of_le (by omega)]
    rw [← hr, this]; rfl
  · rw [if_neg (by omega)] at hr
    obtain ⟨a, rfl⟩ : ∃ a : Nat, at_ = a := ⟨at_.toNat, by omega⟩
    have hc := (bs.getD a 0).toNat_lt
    have w1 : IntKind.i64.wrap ((bs.getD a 0).toNat : Int) = (bs.getD a 0).toNat := wrap64_in (by omega) (by omega)
    have w2 : IntKind.i64.wrap ((a : Int) + 1) = ((a + 1 : Nat) : Int) := by rw [wrap64_in (by omega) (by omega)]; omega
    have w3 : IntKind.i64.wrap (((a + 1 : Nat) : Int) + 1) = (a : Int) + 2 := by rw [wrap64_in (by omega) (by omega)]; omega
    simp only [Int.toNat_natCast]
    refine ⟨_, ⟨by omega, rfl⟩, ?_⟩
    simp only [w1, w2, w3, Int.toNat_natCast]
    have b1 : ∀ n1 : Int, (bs.getD (a + 1) 0).toNat = n1 → IntKind.i64.wrap n1 = (bs.getD (a + 1) 0).toNat := fun n1 hn => by
      have := (bs.getD (a + 1) 0).toNat_lt
      rw [← hn]; exact wrap64_in (by omega) (by omega)
    refine ⟨⟨fun c0 => ⟨(⟨_, _, _⟩, _, _), ⟨rfl, rfl⟩, ⟨rfl, rfl, rfl⟩, .same ?_⟩, fun c0 => ⟨fun c1 => ⟨fun e1 => ⟨(⟨_, _, _⟩, _, _), ⟨rfl, rfl⟩, ⟨rfl, rfl, rfl⟩, .bad (e := 41) ?_ rfl (by decide)⟩, fun e1 => ⟨by omega, _, ⟨by omega, rfl⟩, ?_⟩⟩, fun c1 => ⟨fun c2 => ⟨_, _, _, ⟨rfl, rfl, rfl⟩, (⟨_, _, _⟩, _, _), ⟨rfl, rfl⟩, ⟨rfl, rfl, rfl⟩, .same ?_⟩, fun c2 => ⟨fun c3 => ⟨_, _, _, ⟨rfl, rfl, rfl⟩, (⟨_, _, _⟩, _, _), ⟨rfl, rfl⟩, ⟨rfl, rfl, rfl⟩, .same ?_⟩, fun c3 => ⟨fun c4 => ⟨_, _, _, ⟨rfl, rfl, rfl⟩, (⟨_, _, _⟩, _, _), ⟨rfl, rfl⟩, ⟨rfl, rfl, rfl⟩, .same ?_⟩, fun c4 => ⟨fun c5 => ⟨_, _, _, ⟨rfl, rfl, rfl⟩, (⟨_, _, _⟩, _, _), ⟨rfl, rfl⟩, ⟨rfl, rfl, rfl⟩, .same ?_⟩, fun c5 => ⟨(⟨_, _, _⟩, _, _), ⟨rfl, rfl⟩, ⟨rfl, rfl, rfl⟩, .bad (e := 3) ?_ rfl (by decide)⟩⟩⟩⟩⟩⟩⟩, fun x hx => endV hx (fun h => by rw [hx.o h]; exact readX_str hb) hr ht⟩
    · rw [readX_0 (by omega) (by omega)]
    · rw [readX_1e (by omega) (by omega)]
    · rw [b1 _ rfl]
      refine ⟨fun h1 => ⟨(⟨_, _, _⟩, _, _), ⟨rfl, rfl⟩, ⟨rfl, rfl, rfl⟩, .same ?_⟩, fun h1 => ⟨(⟨_, _, _⟩, _, _), ⟨rfl, rfl⟩, ⟨rfl, rfl, rfl⟩, .same ?_⟩⟩
      · rw [readX_1 (by omega) (by omega), if_pos (by omega)]
      · rw [readX_1 (by omega) (by omega), if_neg (by omega)]
    · rw [readX_n (by omega) (by omega)]
    · rw [readX_n (by omega) (by omega)]
    · rw [readX_t (by omega) (by omega)]
    · rw [readX_t (by omega) (by omega)]
    · rw [readX_x (by omega) (by omega)]
theorem sRd_of {X : Shapes} {R : Callee} {C : CCallee} {m : Int} {g : FuncId} {f : List UInt8 → Int → AV} (hR : CalleeOk PZ (GZ m) R) (hC : ICalleeOk PZ (GZ m) (lowC C))
    (h : ∀ bs n, strOk bs → ∃ A, PureOk PZ (GZ m) X R C A [] g [bytesA bs, .int .i64 n] (f bs n, [])) : SpecOk PZ (GZ m) g (sRd f) := spec_ofW (X := X) (m := []) [1] mixedZ hR hC fun args r h' => by
  unfold sRd onBytes at h'
  split at h'
  · split at h'
    · rename_i hz
      split at h'
      · rename_i bs hb
        dsimp only at h'
        split at h'
        · rename_i hp
          injection h' with h'; subst h'
          simp only [wkL, wk1 hz hb]
          exact h _ _ hp
        · cases h'
      · cases h'
    · cases h'
  · cases h'
theorem o36 (m : Int) : SpecOk PZ (GZ m) 36 s36 := sRd_of (X := XO) (tbl_cons o53 tbl_nil) itbl_nil fun bs n hb => ⟨nAn, p36 m n bs hb⟩
theorem o17 (m : Int) : SpecOk PZ (GZ m) 17 s17 := sRd_of (X := XO) (tbl_cons (o9 m) (tbl_cons (o36 m) (tbl_cons o37 tbl_nil))) itbl_nil fun bs n hb => ⟨a17 bs n, p17 m n bs hb⟩
end Go.Abs

namespace Go.Abs
open Go.Proofs Go.RowKit
section
variable {P : Program} {G : Glob} {E : Env} {w w' : World}
theorem glob_ifc {g : Nat} (hG : GlobOk G E w) (h : G g = some .ifc) : ∃ t x, w.cell? ⟨g, 0, none⟩ = some (.iface t x) := by
  have := (hG g _ h).2.1
  generalize hv : Value.pointer (some ⟨g, 0, none⟩) = v at this
  cases this with | elt _ _ _ _ b off u hcl hA hr h1 =>
  injection hv with hv
  injection hv with hv
  injection hv with h2 h3
  subst h2
  obtain ⟨_, h4⟩ := hA 0 _ 0 _ rfl rfl
  obtain ⟨t, x, h5⟩ := rep_ifc (hr 0 _ 0 _ rfl rfl)
  refine ⟨t, x, ?_⟩
  rw [← h5, ← h4]
  congr 2
theorem rep_tup2 {a b : AV} {u v : Value} (h1 : Rep E w a u) (h2 : Rep E w b v) : Rep E w (.tup [a, b]) (.tuple #[u, v]) := by
  refine .tup _ _ rfl fun i c x hc hx => ?_
  match i, hc, hx with
  | 0, hc, hx => simp at hc hx; subst hc; subst hx; exact h1
  | 1, hc, hx => simp at hc hx; subst hc; subst hx; exact h2
  | i + 2, hc, hx => simp at hc
theorem size_str {s : ByteArray} {l : List UInt8} (h : s.data.toList = l) : s.size = l.length := by rw [← h]; simp
/-- a table of integers that is a package variable -/
theorem glob_tab {g : Nat} {k : IntKind} {zs : List Int} (hG : GlobOk G E w) (h : G g = some (.agg (zs.map fun z => .int k z))) (hz : zs ≠ []) : w.heap[g]?.bind (fun o => match o with | .cells cs _ _ => some cs | _ => none) = some (zs.map fun z => Value.int k z).toArray := by
  obtain ⟨_, h1, _, h2⟩ := hG g _ h
  have hcell : ∀ j (hj : j < zs.length), w.cell? ⟨g, j, none⟩ = some (.int k zs[j]) := by
    generalize hv : Value.pointer (some ⟨g, 0, none⟩) = v at h1
    cases h1 with | elt _ _ _ _ b off u hcl hA hr h1 =>
    injection hv with hv
    injection hv with hv
    injection hv with h3 h4
    subst h3
    intro j hj
    have hc : (AV.agg (zs.map fun z => .int k z)).cells[j]? = some (.int k zs[j]) := by simp [AV.cells, hj]
    obtain ⟨_, h5⟩ := hA 0 _ j _ rfl hc
    have h6 := rep_int (hr 0 _ j _ rfl hc)
    rw [← h6, ← h5]
    congr 2
    omega
  have h0 := hcell 0 (List.length_pos_iff.2 hz)
  unfold World.cell? at hcell h0 h2
  simp only at hcell h0 h2
  cases ho : w.heap[g]? with
  | none => rw [ho] at h0; cases h0
  | some o =>
    rw [ho] at h0
    rw [ho] at hcell h2
    cases o with
    | cells cs e f =>
      simp only [Option.isSome_none, Bool.false_eq_true, if_false] at hcell h2
      simp only [Option.bind_some, Option.some.injEq]
      have hn : (AV.agg (zs.map fun z => .int k z)).cells.length = zs.length := by simp [AV.cells]
      rw [hn] at h2
      have hsz : cs.size ≤ zs.length := by
        apply Classical.byContradiction
        intro hlt
        rw [Array.getElem?_eq_getElem (by omega)] at h2
        cases h2
      apply Array.ext_getElem?
      intro i
      by_cases hi : i < zs.length
      · rw [hcell i hi]; simp [hi]
      · have e1 : cs[i]? = none := Array.getElem?_eq_none (by omega)
        rw [e1, List.getElem?_toArray, List.getElem?_map, List.getElem?_eq_none (by omega)]; rfl
    | _ => simp at h0
end
def atoiV (l : List UInt8) : Int := match Lib.atoiAll l with
  | .ok v => v
  | .range => Lib.atoiSat l
  | _ => 0
def atoiB (l : List UInt8) : Bool := match Lib.atoiAll l with
  | .ok _ => true
  | _ => false
def s33 : Spec := fun args => match args with
  | [.str l] => if strOk l then some (.tup [.int .i64 (atoiV l), if atoiB l = true then .lit .nilIface else .ifc], []) else none
  | _ => none
def s35 : Spec := fun args => match args with
  | [.int .i64 n] => if i64Ok n then some (.str (Lib.itoa n), []) else none
  | _ => none
theorem o33 (m : Int) : SpecOk PZ (GZ m) 33 s33 := by
  intro g args r lv h E w vs hI hG hn' hv hcl
  simp only at h
  split at h
  case isFalse => cases h
  case isTrue e =>
  subst e
  unfold s33 at h
  split at h
  case h_2 => cases h
  case h_1 l =>
  split at h
  case isFalse => cases h
  case isTrue hl =>
  have hl' : l.length ≤ 1000000 := hl
  simp only [Option.some.injEq, Prod.mk.injEq] at h
  obtain ⟨rfl, rfl⟩ := h
  obtain ⟨a, rfl⟩ := vs_one hn'
  obtain ⟨s, rfl, hs⟩ := rep_str (hv 0 _ _ rfl rfl)
  have hsz : s.size = l.length := size_str hs
  refine .inl ⟨goodZ (by kernel_rfl), ?_⟩
  unfold atoiV atoiB
  cases hA : Lib.atoiAll l with
  | ok v =>
    refine (Tryd.strconv_Atoi_ok s (by omega) v (by rw [hs]; exact hA) w).mono fun e w' ⟨he, hw⟩ => ⟨_, he, ?_⟩
    have hb : Below w.heap.size w w' := by
      rcases hw with rfl | ⟨t, rfl⟩
      · exact Below.refl _ _
      · exact Lib.bytesWorld_below _ _ _
    exact res_below hb fun B K => rep_tup2 (.int _ _) (.lit _ rfl)
  | range =>
    obtain ⟨t, x, hx⟩ := glob_ifc (g := 3) hG rfl
    refine (Tryd.strconv_Atoi_range s (by omega) (by rw [hs]; exact hA) _ w hx (.inr ⟨t, x, rfl⟩)).mono fun e w' ⟨N, he, _, _, hb⟩ => ⟨_, he, ?_⟩
    rw [← hs]
    exact res_below hb fun B K => rep_tup2 (.int _ _) (.ifc _ _)
  | _ =>
    obtain ⟨t, x, hx⟩ := glob_ifc (g := 2) hG rfl
    refine (Any.strconv_Atoi_syntax Tryd.laysC172 s (by omega) (by rw [hs]; exact hA) _ w hx (.inr ⟨t, x, rfl⟩)).mono fun e w' ⟨N, he, _, _, hb⟩ => ⟨_, he, ?_⟩
    exact res_below hb fun B K => rep_tup2 (.int _ _) (.ifc _ _)
theorem o35 (m : Int) : SpecOk PZ (GZ m) 35 s35 := by
  intro g args r lv h E w vs hI hG hn' hv hcl
  simp only at h
  split at h
  case isFalse => cases h
  case isTrue e =>
  subst e
  unfold s35 at h
  split at h
  case h_2 => cases h
  case h_1 n =>
  split at h
  case isFalse => cases h
  case isTrue hl =>
  simp only [Option.some.injEq, Prod.mk.injEq] at h
  obtain ⟨rfl, rfl⟩ := h
  obtain ⟨a, rfl⟩ := vs_one hn'
  obtain rfl := rep_int (hv 0 _ _ rfl rfl)
  have htab : Lib.TabIs PZ w "internal/strconv.uint64pow10" .u64 Lib.pow10Tab := by
    have hg : PZ.globalNamed "internal/strconv.uint64pow10" = some 6 := by kernel_rfl
    have hk : GZ m 6 = some (.agg (Lib.pow10Tab.map fun z => .int .u64 z)) := by
      show some keptPowsA = _
      unfold keptPowsA keptPows Lib.pow10Tab
      rw [List.map_map]; rfl
    have := glob_tab hG hk (by unfold Lib.pow10Tab; simp)
    unfold Lib.TabIs World.var?
    rw [hg]
    cases ho : w.heap[6]? with
    | none => rw [ho] at this; cases this
    | some o => rw [ho] at this; cases o <;> simp_all
  refine .inl ⟨goodZ (by kernel_rfl), (Tryd.strconv_Itoa n hl.1 (by have := hl.2; omega) w htab).mono fun e w' ⟨he, k, os, hw⟩ => ⟨_, he, ?_⟩⟩
  subst hw
  exact res_below (Lib.below_grow _ _ (Nat.le_refl _) _ _) fun B K => .str _ _ rfl
theorem o32 (m : Int) : SpecOk PZ (GZ m) 32 sContains := o_contains (goodZ (by kernel_rfl)) (g0 := 1) (m := m) rfl fun s sub m w hs hm => Tryd.strings_Contains s sub m w hs hm
def s21 : Spec := fun args => match args with
  | [.str a, .str b] => some (.int .i64 (Lib.compareBytes a b), [])
  | _ => none
theorem o21 (m : Int) : SpecOk PZ (GZ m) 21 s21 := by
  intro g args r lv h E w vs hI hG hn' hv hcl
  simp only at h
  split at h
  case isFalse => cases h
  case isTrue e =>
  subst e
  unfold s21 at h
  split at h
  case h_2 => cases h
  case h_1 l k =>
  simp only [Option.some.injEq, Prod.mk.injEq] at h
  obtain ⟨rfl, rfl⟩ := h
  obtain ⟨a, b, rfl⟩ := vs_two hn'
  obtain ⟨s, rfl, hs⟩ := rep_str (hv 0 _ _ rfl rfl)
  obtain ⟨t, rfl, ht⟩ := rep_str (hv 1 _ _ rfl rfl)
  refine .inl ⟨goodZ (by kernel_rfl), (Tryd.strings_Compare s t w).mono fun e w' ⟨he, hw⟩ => ⟨_, he, ?_⟩⟩
  subst hw
  rw [← hs, ← ht]
  exact res_same fun B K => .int _ _
end Go.Abs

namespace Go.Abs
open Go.Proofs
def digitB (c : UInt8) : Bool := decide (48 ≤ c.toNat ∧ c.toNat ≤ 57)
end Go.Abs
namespace Go.Abs.L8
open Go.Abs
def valL (s : List UInt8) : Nat := s.foldl (fun n c => 10 * n + (c.toNat - 48)) 0
end Go.Abs.L8
namespace Go.Abs
open Go.Proofs L8
def shTI : Sh × Option TypeId := (.tup [.one (.int .i64), .one (.int .i64)], none)
def shTE : Sh × Option TypeId := (.tup [.one (.int .i64), .one .err], none)
def XL : Shapes := fun f => match f with
  | 12 => some shTI
  | 33 => some shTE
  | _ => none
def valF (n : Nat) (l : List UInt8) : Nat := l.foldl (fun n c => 10 * n + (c.toNat - 48)) n
theorem valL_eq (l : List UInt8) : valL l = valF 0 l := rfl
theorem digitB_iff {c : UInt8} : digitB c = true ↔ 48 ≤ c.toNat ∧ c.toNat ≤ 57 := by simp [digitB]
/-- a decimal: its millionths, its problem -/
def dstep (s : Option (List UInt8 × Option Nat)) (c : UInt8) : Option (List UInt8 × Option Nat) :=
  match s with
  | none => none
  | some (ds, k) =>
    if c = 46 ∧ k = none ∧ ds ≠ [] then some (ds, some 0)
    else if digitB c = true then some (ds ++ [c], k.map (· + 1))
    else none
def dfold (l : List UInt8) : Option (List UInt8 × Option Nat) := l.foldl dstep (some ([], none))
def decFin (neg : Bool) (v k : Nat) : Int × Int :=
  if 2 ^ 60 < v * 10 ^ (6 - k) then (0, 2) else (if neg then -((v * 10 ^ (6 - k) : Nat) : Int) else ((v * 10 ^ (6 - k) : Nat) : Int), 0)
def decR (neg : Bool) (r : List UInt8) : Int × Int :=
  match dfold r with
  | none => (0, 3)
  | some (ds, k) => if ds = [] ∨ k = some 0 ∨ 6 < k.getD 0 then (0, 3) else decFin neg (valL ds) (k.getD 0)
def negB (s : List UInt8) : Bool := s.head? == some 45
def decP (s : List UInt8) : Int × Int := decR (negB s) (if negB s then s.drop 1 else s)
theorem dfold_none (l : List UInt8) : l.foldl dstep none = none := by
  induction l with
  | nil => rfl
  | cons c l ih => simpa [dstep] using ih
theorem dfold_digits : ∀ (a : List UInt8) (ds : List UInt8) (k : Option Nat), a.all digitB = true → a.foldl dstep (some (ds, k)) = some (ds ++ a, k.map (· + a.length))
  | [], ds, k, _ => by cases k <;> simp
  | c :: a, ds, k, h => by
    simp only [List.all_cons, Bool.and_eq_true] at h
    have hc : ¬ (c = 46) := by rintro rfl; simp [digitB] at h
    rw [List.foldl_cons]
    have : dstep (some (ds, k)) c = some (ds ++ [c], k.map (· + 1)) := by
      simp only [dstep]; rw [if_neg (fun h => hc h.1), if_pos h.1]
    rw [this, dfold_digits a _ _ h.2]
    cases k <;> simp; omega
structure X12 where
  i : Nat
  ds : List UInt8
  k : Option Nat
  x : Int
  big : Bool
def ptv (i : Nat) : Option Nat → Int
  | none => -1
  | some j => (i : Int) - j - 1
structure Inv12 (r : List UInt8) (y : X12) : Prop where
  i : y.i ≤ r.length
  fold : dfold (r.take y.i) = some (y.ds, y.k)
  k : ∀ j, y.k = some j → j + 1 ≤ y.i ∧ y.ds ≠ []
  k0 : y.k = none → y.ds.length = y.i
  small : y.big = false → y.x = valL y.ds ∧ valL y.ds ≤ 1152921504606846976
  great : y.big = true → 1152921504606846976 < valL y.ds
  x : 0 ≤ y.x ∧ y.x ≤ 1152921504606846976
def restB (s : List UInt8) : List UInt8 := if negB s then s.drop 1 else s
structure End12 (r : List UInt8) (y : X12) : Prop where
  inv : Inv12 r y
  i : y.i = r.length
def a12 (s : List UInt8) : Anns := ⟨fun k => match k with
  | 6 => some { α := X12, slots := [2, 4, 5, 6, 7, 8], nb := 0, vals := fun y => [.int .i64 y.x, .str (restB s), .bool (negB s), .int .i64 (ptv y.i y.k), .bool y.big, .int .i64 y.i], sS := fun _ => ⟨[], []⟩, I := Inv12 (restB s), μ := fun y => (restB s).length - y.i, bools := [7] }
  | 1000004 => some { α := Unit, slots := [2, 4, 5], nb := 0, vals := fun _ => [.int .i64 0, .str (restB s), .bool (negB s)], sS := fun _ => ⟨[], []⟩, I := fun _ => True, μ := fun _ => 0 }
  | 1000018 => some { α := X12, slots := [2, 4, 5, 6, 7], nb := 0, vals := fun y => [.int .i64 y.x, .str (restB s), .bool (negB s), .int .i64 (ptv y.i y.k), .bool y.big], sS := fun _ => ⟨[], []⟩, I := End12 (restB s), μ := fun _ => 0, bools := [7, 5] }
  | _ => none, nA⟩
def s12 : Spec := fun args => match args with
  | [.str l] => if l.length ≤ 1000000 then some (.tup [.int .i64 (decP l).1, .int .i64 (decP l).2], []) else none
  | _ => none
theorem w12 (m : Int) (s : List UInt8) : (pureW PZ (GZ m) XL (tbl []) (itbl []) (a12 s) [] 12 [.str s] (.tup [.int .i64 (decP s).1, .int .i64 (decP s).2], [])) =
(((((!s == []) = true →
        (0 : Int) ≤ (0 : Int) ∧
 ∃ (c : UInt8),
 s[nat_lit 0]? = some c ∧
 (((↑c.toNat : Int) == (45 : Int)) = true →
 (0 : Int) ≤ (1 : Int) ∧
 (nat_lit 1 ≤ s.length ∧ s.length ≤ s.length) ∧
 ∃ (_y : Unit),
 ValsAre [AV.int IntKind.i64 (0 : Int), AV.str (List.drop (nat_lit 1) (List.take s.length s)), AV.bool true]
 [AV.int IntKind.i64 (0 : Int), AV.str (restB s), AV.bool (negB s)] ∧
 StIs { boxes := [], live := [] } { boxes := [], live := [] } ∧ True ∧ True) ∧
 (((↑c.toNat : Int) == (45 : Int)) = false →
 ∃ (_y : Unit),
 ValsAre [AV.int IntKind.i64 (0 : Int), AV.str s, AV.bool false] [AV.int IntKind.i64 (0 : Int), AV.str (restB s), AV.bool (negB s)] ∧
 StIs { boxes := [], live := [] } { boxes := [], live := [] } ∧ True ∧ True)) ∧
      ((!s == []) = false →
        ∃ (_y : Unit),
 ValsAre [AV.int IntKind.i64 (0 : Int), AV.str s, AV.bool false] [AV.int IntKind.i64 (0 : Int), AV.str (restB s), AV.bool (negB s)] ∧
 StIs { boxes := [], live := [] } { boxes := [], live := [] } ∧ True ∧ True)) ∧
    ∀ (_x : Unit),
      True →
        True →
 ((∃ (y : X12),
 ValsAre
 [AV.int IntKind.i64 (0 : Int), AV.str (restB s), AV.bool (negB s), AV.int IntKind.i64 (-1 : Int), AV.bool false,
 AV.int IntKind.i64 (0 : Int)]
 [AV.int IntKind.i64 y.x, AV.str (restB s), AV.bool (negB s), AV.int IntKind.i64 (ptv y.i y.k), AV.bool y.big,
 AV.int IntKind.i64 (↑y.i : Int)] ∧
 StIs { boxes := [], live := [] } { boxes := [], live := [] } ∧ Inv12 (restB s) y ∧ True) ∧
 ∀ (x : X12),
 Inv12 (restB s) x →
 (x.big = true →
 (decide ((↑x.i : Int) < (↑(restB s).length : Int)) = true →
 (0 : Int) ≤ (↑x.i : Int) ∧
 ∃ (c : UInt8),
 (restB s)[(↑x.i : Int).toNat]? = some c ∧
 (((↑c.toNat : Int) == (46 : Int)) = true →
 (decide (ptv x.i x.k < (0 : Int)) = true →
 (decide ((↑x.i : Int) > (0 : Int)) = true →
 ∃ (y : X12),
 ValsAre
 [AV.int IntKind.i64 x.x, AV.str (restB s), AV.bool (negB s), AV.int IntKind.i64 (↑x.i : Int), AV.bool true,
 AV.int IntKind.i64 (IntKind.i64.wrap ((↑x.i : Int) + (1 : Int)))]
 [AV.int IntKind.i64 y.x, AV.str (restB s), AV.bool (negB s), AV.int IntKind.i64 (ptv y.i y.k), AV.bool y.big,
 AV.int IntKind.i64 (↑y.i : Int)] ∧
 StIs { boxes := [], live := [] } { boxes := [], live := [] } ∧
 Inv12 (restB s) y ∧ (restB s).length - y.i < (restB s).length - x.i) ∧
 (decide ((↑x.i : Int) > (0 : Int)) = false →
 (decide ((↑c.toNat : Int) < (48 : Int)) = true →
 RetIs (AV.tup [AV.int IntKind.i64 (0 : Int), AV.int IntKind.i64 (3 : Int)]) []
 (AV.tup [AV.int IntKind.i64 (decP s).fst, AV.int IntKind.i64 (decP s).snd], [])) ∧
 (decide ((↑c.toNat : Int) < (48 : Int)) = false →
 (decide ((↑c.toNat : Int) > (57 : Int)) = true →
 RetIs (AV.tup [AV.int IntKind.i64 (0 : Int), AV.int IntKind.i64 (3 : Int)]) []
 (AV.tup [AV.int IntKind.i64 (decP s).fst, AV.int IntKind.i64 (decP s).snd], [])) ∧
 (decide ((↑c.toNat : Int) > (57 : Int)) = false →
 ∃ (y : X12),
 ValsAre
 [AV.int IntKind.i64 x.x, AV.str (restB s), AV.bool (negB s), AV.int IntKind.i64 (ptv x.i x.k),
 AV.bool true, AV.int IntKind.i64 (IntKind.i64.wrap ((↑x.i : Int) + (1 : Int)))]
 [AV.int IntKind.i64 y.x, AV.str (restB s), AV.bool (negB s), AV.int IntKind.i64 (ptv y.i y.k),
 AV.bool y.big, AV.int IntKind.i64 (↑y.i : Int)] ∧
 StIs { boxes := [], live := [] } { boxes := [], live := [] } ∧
 Inv12 (restB s) y ∧ (restB s).length - y.i < (restB s).length - x.i)))) ∧
 (decide (ptv x.i x.k < (0 : Int)) = false →
 (decide ((↑c.toNat : Int) < (48 : Int)) = true →
 RetIs (AV.tup [AV.int IntKind.i64 (0 : Int), AV.int IntKind.i64 (3 : Int)]) []
 (AV.tup [AV.int IntKind.i64 (decP s).fst, AV.int IntKind.i64 (decP s).snd], [])) ∧
 (decide ((↑c.toNat : Int) < (48 : Int)) = false →
 (decide ((↑c.toNat : Int) > (57 : Int)) = true →
 RetIs (AV.tup [AV.int IntKind.i64 (0 : Int), AV.int IntKind.i64 (3 : Int)]) []
 (AV.tup [AV.int IntKind.i64 (decP s).fst, AV.int IntKind.i64 (decP s).snd], [])) ∧
 (decide ((↑c.toNat : Int) > (57 : Int)) = false →
 ∃ (y : X12),
 ValsAre
 [AV.int IntKind.i64 x.x, AV.str (restB s), AV.bool (negB s), AV.int IntKind.i64 (ptv x.i x.k),
 AV.bool true, AV.int IntKind.i64 (IntKind.i64.wrap ((↑x.i : Int) + (1 : Int)))]
 [AV.int IntKind.i64 y.x, AV.str (restB s), AV.bool (negB s), AV.int IntKind.i64 (ptv y.i y.k),
 AV.bool y.big, AV.int IntKind.i64 (↑y.i : Int)] ∧
 StIs { boxes := [], live := [] } { boxes := [], live := [] } ∧
 Inv12 (restB s) y ∧ (restB s).length - y.i < (restB s).length - x.i)))) ∧
 (((↑c.toNat : Int) == (46 : Int)) = false →
 (decide ((↑c.toNat : Int) < (48 : Int)) = true →
 RetIs (AV.tup [AV.int IntKind.i64 (0 : Int), AV.int IntKind.i64 (3 : Int)]) []
 (AV.tup [AV.int IntKind.i64 (decP s).fst, AV.int IntKind.i64 (decP s).snd], [])) ∧
 (decide ((↑c.toNat : Int) < (48 : Int)) = false →
 (decide ((↑c.toNat : Int) > (57 : Int)) = true →
 RetIs (AV.tup [AV.int IntKind.i64 (0 : Int), AV.int IntKind.i64 (3 : Int)]) []
 (AV.tup [AV.int IntKind.i64 (decP s).fst, AV.int IntKind.i64 (decP s).snd], [])) ∧
 (decide ((↑c.toNat : Int) > (57 : Int)) = false →
 ∃ (y : X12),
 ValsAre
 [AV.int IntKind.i64 x.x, AV.str (restB s), AV.bool (negB s), AV.int IntKind.i64 (ptv x.i x.k), AV.bool true,
 AV.int IntKind.i64 (IntKind.i64.wrap ((↑x.i : Int) + (1 : Int)))]
 [AV.int IntKind.i64 y.x, AV.str (restB s), AV.bool (negB s), AV.int IntKind.i64 (ptv y.i y.k), AV.bool y.big,
 AV.int IntKind.i64 (↑y.i : Int)] ∧
 StIs { boxes := [], live := [] } { boxes := [], live := [] } ∧
 Inv12 (restB s) y ∧ (restB s).length - y.i < (restB s).length - x.i)))) ∧
 (decide ((↑x.i : Int) < (↑(restB s).length : Int)) = false →
 ∃ (y : X12),
 ValsAre [AV.int IntKind.i64 x.x, AV.str (restB s), AV.bool (negB s), AV.int IntKind.i64 (ptv x.i x.k), AV.bool true]
 [AV.int IntKind.i64 y.x, AV.str (restB s), AV.bool (negB s), AV.int IntKind.i64 (ptv y.i y.k), AV.bool y.big] ∧
 StIs { boxes := [], live := [] } { boxes := [], live := [] } ∧ End12 (restB s) y ∧ True)) ∧
 (x.big = false →
 (decide ((↑x.i : Int) < (↑(restB s).length : Int)) = true →
 (0 : Int) ≤ (↑x.i : Int) ∧
 ∃ (c : UInt8),
 (restB s)[(↑x.i : Int).toNat]? = some c ∧
 (((↑c.toNat : Int) == (46 : Int)) = true →
 (decide (ptv x.i x.k < (0 : Int)) = true →
 (decide ((↑x.i : Int) > (0 : Int)) = true →
 ∃ (y : X12),
 ValsAre
 [AV.int IntKind.i64 x.x, AV.str (restB s), AV.bool (negB s), AV.int IntKind.i64 (↑x.i : Int), AV.bool false,
 AV.int IntKind.i64 (IntKind.i64.wrap ((↑x.i : Int) + (1 : Int)))]
 [AV.int IntKind.i64 y.x, AV.str (restB s), AV.bool (negB s), AV.int IntKind.i64 (ptv y.i y.k), AV.bool y.big,
 AV.int IntKind.i64 (↑y.i : Int)] ∧
 StIs { boxes := [], live := [] } { boxes := [], live := [] } ∧
 Inv12 (restB s) y ∧ (restB s).length - y.i < (restB s).length - x.i) ∧
 (decide ((↑x.i : Int) > (0 : Int)) = false →
 (decide ((↑c.toNat : Int) < (48 : Int)) = true →
 RetIs (AV.tup [AV.int IntKind.i64 (0 : Int), AV.int IntKind.i64 (3 : Int)]) []
 (AV.tup [AV.int IntKind.i64 (decP s).fst, AV.int IntKind.i64 (decP s).snd], [])) ∧
 (decide ((↑c.toNat : Int) < (48 : Int)) = false →
 (decide ((↑c.toNat : Int) > (57 : Int)) = true →
 RetIs (AV.tup [AV.int IntKind.i64 (0 : Int), AV.int IntKind.i64 (3 : Int)]) []
 (AV.tup [AV.int IntKind.i64 (decP s).fst, AV.int IntKind.i64 (decP s).snd], [])) ∧
 (decide ((↑c.toNat : Int) > (57 : Int)) = false →
 (10 : Int) ≠ (0 : Int) ∧
 (decide
 (x.x >
 IntKind.i64.wrap
 ((IntKind.i64.wrap
 ((1152921504606846976 : Int) -
 IntKind.i64.wrap (IntKind.u8.wrap ((↑c.toNat : Int) - (48 : Int))))).tdiv
 (10 : Int))) =
 true →
 ∃ (y : X12),
 ValsAre
 [AV.int IntKind.i64 x.x, AV.str (restB s), AV.bool (negB s), AV.int IntKind.i64 (ptv x.i x.k),
 AV.bool true, AV.int IntKind.i64 (IntKind.i64.wrap ((↑x.i : Int) + (1 : Int)))]
 [AV.int IntKind.i64 y.x, AV.str (restB s), AV.bool (negB s), AV.int IntKind.i64 (ptv y.i y.k),
 AV.bool y.big, AV.int IntKind.i64 (↑y.i : Int)] ∧
 StIs { boxes := [], live := [] } { boxes := [], live := [] } ∧
 Inv12 (restB s) y ∧ (restB s).length - y.i < (restB s).length - x.i) ∧
 (decide
 (x.x >
 IntKind.i64.wrap
 ((IntKind.i64.wrap
 ((1152921504606846976 : Int) -
 IntKind.i64.wrap (IntKind.u8.wrap ((↑c.toNat : Int) - (48 : Int))))).tdiv
 (10 : Int))) =
 false →
 ∃ (y : X12),
 ValsAre
 [AV.int IntKind.i64
 (IntKind.i64.wrap
 (IntKind.i64.wrap ((10 : Int) * x.x) +
 IntKind.i64.wrap (IntKind.u8.wrap ((↑c.toNat : Int) - (48 : Int))))),
 AV.str (restB s), AV.bool (negB s), AV.int IntKind.i64 (ptv x.i x.k), AV.bool false,
 AV.int IntKind.i64 (IntKind.i64.wrap ((↑x.i : Int) + (1 : Int)))]
 [AV.int IntKind.i64 y.x, AV.str (restB s), AV.bool (negB s), AV.int IntKind.i64 (ptv y.i y.k),
 AV.bool y.big, AV.int IntKind.i64 (↑y.i : Int)] ∧
 StIs { boxes := [], live := [] } { boxes := [], live := [] } ∧
 Inv12 (restB s) y ∧ (restB s).length - y.i < (restB s).length - x.i))))) ∧
 (decide (ptv x.i x.k < (0 : Int)) = false →
 (decide ((↑c.toNat : Int) < (48 : Int)) = true →
 RetIs (AV.tup [AV.int IntKind.i64 (0 : Int), AV.int IntKind.i64 (3 : Int)]) []
 (AV.tup [AV.int IntKind.i64 (decP s).fst, AV.int IntKind.i64 (decP s).snd], [])) ∧
 (decide ((↑c.toNat : Int) < (48 : Int)) = false →
 (decide ((↑c.toNat : Int) > (57 : Int)) = true →
 RetIs (AV.tup [AV.int IntKind.i64 (0 : Int), AV.int IntKind.i64 (3 : Int)]) []
 (AV.tup [AV.int IntKind.i64 (decP s).fst, AV.int IntKind.i64 (decP s).snd], [])) ∧
 (decide ((↑c.toNat : Int) > (57 : Int)) = false →
 (10 : Int) ≠ (0 : Int) ∧
 (decide
 (x.x >
 IntKind.i64.wrap
 ((IntKind.i64.wrap
 ((1152921504606846976 : Int) -
 IntKind.i64.wrap (IntKind.u8.wrap ((↑c.toNat : Int) - (48 : Int))))).tdiv
 (10 : Int))) =
 true →
 ∃ (y : X12),
 ValsAre
 [AV.int IntKind.i64 x.x, AV.str (restB s), AV.bool (negB s), AV.int IntKind.i64 (ptv x.i x.k),
 AV.bool true, AV.int IntKind.i64 (IntKind.i64.wrap ((↑x.i : Int) + (1 : Int)))]
 [AV.int IntKind.i64 y.x, AV.str (restB s), AV.bool (negB s), AV.int IntKind.i64 (ptv y.i y.k),
 AV.bool y.big, AV.int IntKind.i64 (↑y.i : Int)] ∧
 StIs { boxes := [], live := [] } { boxes := [], live := [] } ∧
 Inv12 (restB s) y ∧ (restB s).length - y.i < (restB s).length - x.i) ∧
 (decide
 (x.x >
 IntKind.i64.wrap
 ((IntKind.i64.wrap
 ((1152921504606846976 : Int) -
 IntKind.i64.wrap (IntKind.u8.wrap ((↑c.toNat : Int) - (48 : Int))))).tdiv
 (10 : Int))) =
 false →
 ∃ (y : X12),
 ValsAre
 [AV.int IntKind.i64
 (IntKind.i64.wrap
 (IntKind.i64.wrap ((10 : Int) * x.x) +
 IntKind.i64.wrap (IntKind.u8.wrap ((↑c.toNat : Int) - (48 : Int))))),
 AV.str (restB s), AV.bool (negB s), AV.int IntKind.i64 (ptv x.i x.k), AV.bool false,
 AV.int IntKind.i64 (IntKind.i64.wrap ((↑x.i : Int) + (1 : Int)))]
 [AV.int IntKind.i64 y.x, AV.str (restB s), AV.bool (negB s), AV.int IntKind.i64 (ptv y.i y.k),
 AV.bool y.big, AV.int IntKind.i64 (↑y.i : Int)] ∧
 StIs { boxes := [], live := [] } { boxes := [], live := [] } ∧
 Inv12 (restB s) y ∧ (restB s).length - y.i < (restB s).length - x.i))))) ∧
 (((↑c.toNat : Int) == (46 : Int)) = false →
 (decide ((↑c.toNat : Int) < (48 : Int)) = true →
 RetIs (AV.tup [AV.int IntKind.i64 (0 : Int), AV.int IntKind.i64 (3 : Int)]) []
 (AV.tup [AV.int IntKind.i64 (decP s).fst, AV.int IntKind.i64 (decP s).snd], [])) ∧
 (decide ((↑c.toNat : Int) < (48 : Int)) = false →
 (decide ((↑c.toNat : Int) > (57 : Int)) = true →
 RetIs (AV.tup [AV.int IntKind.i64 (0 : Int), AV.int IntKind.i64 (3 : Int)]) []
 (AV.tup [AV.int IntKind.i64 (decP s).fst, AV.int IntKind.i64 (decP s).snd], [])) ∧
 (decide ((↑c.toNat : Int) > (57 : Int)) = false →
 (10 : Int) ≠ (0 : Int) ∧
 (decide
 (x.x >
 IntKind.i64.wrap
 ((IntKind.i64.wrap
 ((1152921504606846976 : Int) -
 IntKind.i64.wrap (IntKind.u8.wrap ((↑c.toNat : Int) - (48 : Int))))).tdiv
 (10 : Int))) =
 true →
 ∃ (y : X12),
 ValsAre
 [AV.int IntKind.i64 x.x, AV.str (restB s), AV.bool (negB s), AV.int IntKind.i64 (ptv x.i x.k),
 AV.bool true, AV.int IntKind.i64 (IntKind.i64.wrap ((↑x.i : Int) + (1 : Int)))]
 [AV.int IntKind.i64 y.x, AV.str (restB s), AV.bool (negB s), AV.int IntKind.i64 (ptv y.i y.k),
 AV.bool y.big, AV.int IntKind.i64 (↑y.i : Int)] ∧
 StIs { boxes := [], live := [] } { boxes := [], live := [] } ∧
 Inv12 (restB s) y ∧ (restB s).length - y.i < (restB s).length - x.i) ∧
 (decide
 (x.x >
 IntKind.i64.wrap
 ((IntKind.i64.wrap
 ((1152921504606846976 : Int) -
 IntKind.i64.wrap (IntKind.u8.wrap ((↑c.toNat : Int) - (48 : Int))))).tdiv
 (10 : Int))) =
 false →
 ∃ (y : X12),
 ValsAre
 [AV.int IntKind.i64
 (IntKind.i64.wrap
 (IntKind.i64.wrap ((10 : Int) * x.x) +
 IntKind.i64.wrap (IntKind.u8.wrap ((↑c.toNat : Int) - (48 : Int))))),
 AV.str (restB s), AV.bool (negB s), AV.int IntKind.i64 (ptv x.i x.k), AV.bool false,
 AV.int IntKind.i64 (IntKind.i64.wrap ((↑x.i : Int) + (1 : Int)))]
 [AV.int IntKind.i64 y.x, AV.str (restB s), AV.bool (negB s), AV.int IntKind.i64 (ptv y.i y.k),
 AV.bool y.big, AV.int IntKind.i64 (↑y.i : Int)] ∧
 StIs { boxes := [], live := [] } { boxes := [], live := [] } ∧
 Inv12 (restB s) y ∧ (restB s).length - y.i < (restB s).length - x.i))))) ∧
 (decide ((↑x.i : Int) < (↑(restB s).length : Int)) = false →
 ∃ (y : X12),
 ValsAre [AV.int IntKind.i64 x.x, AV.str (restB s), AV.bool (negB s), AV.int IntKind.i64 (ptv x.i x.k), AV.bool false]
 [AV.int IntKind.i64 y.x, AV.str (restB s), AV.bool (negB s), AV.int IntKind.i64 (ptv y.i y.k), AV.bool y.big] ∧
 StIs { boxes := [], live := [] } { boxes := [], live := [] } ∧ End12 (restB s) y ∧ True))) ∧
 ∀ (x : X12),
 End12 (restB s) x →
 True →
 (x.big = true →
 (negB s = true →
 (decide (ptv x.i x.k ≥ (0 : Int)) = true →
 ((IntKind.i64.wrap (IntKind.i64.wrap ((↑(restB s).length : Int) - ptv x.i x.k) - (1 : Int)) == (0 : Int)) = true →
 RetIs (AV.tup [AV.int IntKind.i64 (0 : Int), AV.int IntKind.i64 (3 : Int)]) []
 (AV.tup [AV.int IntKind.i64 (decP s).fst, AV.int IntKind.i64 (decP s).snd], [])) ∧
 ((IntKind.i64.wrap (IntKind.i64.wrap ((↑(restB s).length : Int) - ptv x.i x.k) - (1 : Int)) == (0 : Int)) = false →
 (decide (IntKind.i64.wrap (IntKind.i64.wrap ((↑(restB s).length : Int) - ptv x.i x.k) - (1 : Int)) > (6 : Int)) = true →
 RetIs (AV.tup [AV.int IntKind.i64 (0 : Int), AV.int IntKind.i64 (3 : Int)]) []
 (AV.tup [AV.int IntKind.i64 (decP s).fst, AV.int IntKind.i64 (decP s).snd], [])) ∧
 (decide (IntKind.i64.wrap (IntKind.i64.wrap ((↑(restB s).length : Int) - ptv x.i x.k) - (1 : Int)) > (6 : Int)) = false →
 ((restB s == []) = true →
 RetIs (AV.tup [AV.int IntKind.i64 (0 : Int), AV.int IntKind.i64 (3 : Int)]) []
 (AV.tup [AV.int IntKind.i64 (decP s).fst, AV.int IntKind.i64 (decP s).snd], [])) ∧
 ((restB s == []) = false →
 ((0 : Int) ≤
 IntKind.i64.wrap
 ((6 : Int) - IntKind.i64.wrap (IntKind.i64.wrap ((↑(restB s).length : Int) - ptv x.i x.k) - (1 : Int))) ∧
 IntKind.i64.wrap
 ((6 : Int) - IntKind.i64.wrap (IntKind.i64.wrap ((↑(restB s).length : Int) - ptv x.i x.k) - (1 : Int))) <
 (7 : Int)) ∧
 ∃ (n : Int),
 takeAt PZ (nat_lit 3)
 [AV.agg
 [AV.int IntKind.i64 (1 : Int), AV.int IntKind.i64 (10 : Int), AV.int IntKind.i64 (100 : Int),
 AV.int IntKind.i64 (1000 : Int), AV.int IntKind.i64 (10000 : Int), AV.int IntKind.i64 (100000 : Int),
 AV.int IntKind.i64 (1000000 : Int)]]
 (nat_lit 0)
 (nat_lit 0 +
 (IntKind.i64.wrap
 ((6 : Int) -
 IntKind.i64.wrap
 (IntKind.i64.wrap ((↑(restB s).length : Int) - ptv x.i x.k) - (1 : Int)))).toNat *
 nat_lit 1) =
 some (AV.int IntKind.i64 n) ∧
 RetIs (AV.tup [AV.int IntKind.i64 (0 : Int), AV.int IntKind.i64 (2 : Int)]) []
 (AV.tup [AV.int IntKind.i64 (decP s).fst, AV.int IntKind.i64 (decP s).snd], []))))) ∧
 (decide (ptv x.i x.k ≥ (0 : Int)) = false →
 ((restB s == []) = true →
 RetIs (AV.tup [AV.int IntKind.i64 (0 : Int), AV.int IntKind.i64 (3 : Int)]) []
 (AV.tup [AV.int IntKind.i64 (decP s).fst, AV.int IntKind.i64 (decP s).snd], [])) ∧
 ((restB s == []) = false →
 ((0 : Int) ≤ (6 : Int) ∧ (6 : Int) < (7 : Int)) ∧
 ∃ (n : Int),
 some (AV.int IntKind.i64 (1000000 : Int)) = some (AV.int IntKind.i64 n) ∧
 RetIs (AV.tup [AV.int IntKind.i64 (0 : Int), AV.int IntKind.i64 (2 : Int)]) []
 (AV.tup [AV.int IntKind.i64 (decP s).fst, AV.int IntKind.i64 (decP s).snd], [])))) ∧
 (negB s = false →
 (decide (ptv x.i x.k ≥ (0 : Int)) = true →
 ((IntKind.i64.wrap (IntKind.i64.wrap ((↑(restB s).length : Int) - ptv x.i x.k) - (1 : Int)) == (0 : Int)) = true →
 RetIs (AV.tup [AV.int IntKind.i64 (0 : Int), AV.int IntKind.i64 (3 : Int)]) []
 (AV.tup [AV.int IntKind.i64 (decP s).fst, AV.int IntKind.i64 (decP s).snd], [])) ∧
 ((IntKind.i64.wrap (IntKind.i64.wrap ((↑(restB s).length : Int) - ptv x.i x.k) - (1 : Int)) == (0 : Int)) = false →
 (decide (IntKind.i64.wrap (IntKind.i64.wrap ((↑(restB s).length : Int) - ptv x.i x.k) - (1 : Int)) > (6 : Int)) = true →
 RetIs (AV.tup [AV.int IntKind.i64 (0 : Int), AV.int IntKind.i64 (3 : Int)]) []
 (AV.tup [AV.int IntKind.i64 (decP s).fst, AV.int IntKind.i64 (decP s).snd], [])) ∧
 (decide (IntKind.i64.wrap (IntKind.i64.wrap ((↑(restB s).length : Int) - ptv x.i x.k) - (1 : Int)) > (6 : Int)) = false →
 ((restB s == []) = true →
 RetIs (AV.tup [AV.int IntKind.i64 (0 : Int), AV.int IntKind.i64 (3 : Int)]) []
 (AV.tup [AV.int IntKind.i64 (decP s).fst, AV.int IntKind.i64 (decP s).snd], [])) ∧
 ((restB s == []) = false →
 ((0 : Int) ≤
 IntKind.i64.wrap
 ((6 : Int) - IntKind.i64.wrap (IntKind.i64.wrap ((↑(restB s).length : Int) - ptv x.i x.k) - (1 : Int))) ∧
 IntKind.i64.wrap
 ((6 : Int) - IntKind.i64.wrap (IntKind.i64.wrap ((↑(restB s).length : Int) - ptv x.i x.k) - (1 : Int))) <
 (7 : Int)) ∧
 ∃ (n : Int),
 takeAt PZ (nat_lit 3)
 [AV.agg
 [AV.int IntKind.i64 (1 : Int), AV.int IntKind.i64 (10 : Int), AV.int IntKind.i64 (100 : Int),
 AV.int IntKind.i64 (1000 : Int), AV.int IntKind.i64 (10000 : Int), AV.int IntKind.i64 (100000 : Int),
 AV.int IntKind.i64 (1000000 : Int)]]
 (nat_lit 0)
 (nat_lit 0 +
 (IntKind.i64.wrap
 ((6 : Int) -
 IntKind.i64.wrap
 (IntKind.i64.wrap ((↑(restB s).length : Int) - ptv x.i x.k) - (1 : Int)))).toNat *
 nat_lit 1) =
 some (AV.int IntKind.i64 n) ∧
 RetIs (AV.tup [AV.int IntKind.i64 (0 : Int), AV.int IntKind.i64 (2 : Int)]) []
 (AV.tup [AV.int IntKind.i64 (decP s).fst, AV.int IntKind.i64 (decP s).snd], []))))) ∧
 (decide (ptv x.i x.k ≥ (0 : Int)) = false →
 ((restB s == []) = true →
 RetIs (AV.tup [AV.int IntKind.i64 (0 : Int), AV.int IntKind.i64 (3 : Int)]) []
 (AV.tup [AV.int IntKind.i64 (decP s).fst, AV.int IntKind.i64 (decP s).snd], [])) ∧
 ((restB s == []) = false →
 ((0 : Int) ≤ (6 : Int) ∧ (6 : Int) < (7 : Int)) ∧
 ∃ (n : Int),
 some (AV.int IntKind.i64 (1000000 : Int)) = some (AV.int IntKind.i64 n) ∧
 RetIs (AV.tup [AV.int IntKind.i64 (0 : Int), AV.int IntKind.i64 (2 : Int)]) []
 (AV.tup [AV.int IntKind.i64 (decP s).fst, AV.int IntKind.i64 (decP s).snd], []))))) ∧
 (x.big = false →
 (negB s = true →
 (decide (ptv x.i x.k ≥ (0 : Int)) = true →
 ((IntKind.i64.wrap (IntKind.i64.wrap ((↑(restB s).length : Int) - ptv x.i x.k) - (1 : Int)) == (0 : Int)) = true →
 RetIs (AV.tup [AV.int IntKind.i64 (0 : Int), AV.int IntKind.i64 (3 : Int)]) []
 (AV.tup [AV.int IntKind.i64 (decP s).fst, AV.int IntKind.i64 (decP s).snd], [])) ∧
 ((IntKind.i64.wrap (IntKind.i64.wrap ((↑(restB s).length : Int) - ptv x.i x.k) - (1 : Int)) == (0 : Int)) = false →
 (decide (IntKind.i64.wrap (IntKind.i64.wrap ((↑(restB s).length : Int) - ptv x.i x.k) - (1 : Int)) > (6 : Int)) = true →
 RetIs (AV.tup [AV.int IntKind.i64 (0 : Int), AV.int IntKind.i64 (3 : Int)]) []
 (AV.tup [AV.int IntKind.i64 (decP s).fst, AV.int IntKind.i64 (decP s).snd], [])) ∧
 (decide (IntKind.i64.wrap (IntKind.i64.wrap ((↑(restB s).length : Int) - ptv x.i x.k) - (1 : Int)) > (6 : Int)) = false →
 ((restB s == []) = true →
 RetIs (AV.tup [AV.int IntKind.i64 (0 : Int), AV.int IntKind.i64 (3 : Int)]) []
 (AV.tup [AV.int IntKind.i64 (decP s).fst, AV.int IntKind.i64 (decP s).snd], [])) ∧
 ((restB s == []) = false →
 ((0 : Int) ≤
 IntKind.i64.wrap
 ((6 : Int) - IntKind.i64.wrap (IntKind.i64.wrap ((↑(restB s).length : Int) - ptv x.i x.k) - (1 : Int))) ∧
 IntKind.i64.wrap
 ((6 : Int) - IntKind.i64.wrap (IntKind.i64.wrap ((↑(restB s).length : Int) - ptv x.i x.k) - (1 : Int))) <
 (7 : Int)) ∧
 ∃ (n : Int),
 takeAt PZ (nat_lit 3)
 [AV.agg
 [AV.int IntKind.i64 (1 : Int), AV.int IntKind.i64 (10 : Int), AV.int IntKind.i64 (100 : Int),
 AV.int IntKind.i64 (1000 : Int), AV.int IntKind.i64 (10000 : Int), AV.int IntKind.i64 (100000 : Int),
 AV.int IntKind.i64 (1000000 : Int)]]
 (nat_lit 0)
 (nat_lit 0 +
 (IntKind.i64.wrap
 ((6 : Int) -
 IntKind.i64.wrap
 (IntKind.i64.wrap ((↑(restB s).length : Int) - ptv x.i x.k) - (1 : Int)))).toNat *
 nat_lit 1) =
 some (AV.int IntKind.i64 n) ∧
 n ≠ (0 : Int) ∧
 (decide (x.x > IntKind.i64.wrap (Int.tdiv (1152921504606846976 : Int) n)) = true →
 RetIs (AV.tup [AV.int IntKind.i64 (0 : Int), AV.int IntKind.i64 (2 : Int)]) []
 (AV.tup [AV.int IntKind.i64 (decP s).fst, AV.int IntKind.i64 (decP s).snd], [])) ∧
 (decide (x.x > IntKind.i64.wrap (Int.tdiv (1152921504606846976 : Int) n)) = false →
 RetIs
 (AV.tup
 [AV.int IntKind.i64 (IntKind.i64.wrap ((0 : Int) - IntKind.i64.wrap (x.x * n))),
 AV.int IntKind.i64 (0 : Int)])
 [] (AV.tup [AV.int IntKind.i64 (decP s).fst, AV.int IntKind.i64 (decP s).snd], [])))))) ∧
 (decide (ptv x.i x.k ≥ (0 : Int)) = false →
 ((restB s == []) = true →
 RetIs (AV.tup [AV.int IntKind.i64 (0 : Int), AV.int IntKind.i64 (3 : Int)]) []
 (AV.tup [AV.int IntKind.i64 (decP s).fst, AV.int IntKind.i64 (decP s).snd], [])) ∧
 ((restB s == []) = false →
 ((0 : Int) ≤ (6 : Int) ∧ (6 : Int) < (7 : Int)) ∧
 ∃ (n : Int),
 some (AV.int IntKind.i64 (1000000 : Int)) = some (AV.int IntKind.i64 n) ∧
 n ≠ (0 : Int) ∧
 (decide (x.x > IntKind.i64.wrap (Int.tdiv (1152921504606846976 : Int) n)) = true →
 RetIs (AV.tup [AV.int IntKind.i64 (0 : Int), AV.int IntKind.i64 (2 : Int)]) []
 (AV.tup [AV.int IntKind.i64 (decP s).fst, AV.int IntKind.i64 (decP s).snd], [])) ∧
 (decide (x.x > IntKind.i64.wrap (Int.tdiv (1152921504606846976 : Int) n)) = false →
 RetIs
 (AV.tup
 [AV.int IntKind.i64 (IntKind.i64.wrap ((0 : Int) - IntKind.i64.wrap (x.x * n))),
 AV.int IntKind.i64 (0 : Int)])
 [] (AV.tup [AV.int IntKind.i64 (decP s).fst, AV.int IntKind.i64 (decP s).snd], []))))) ∧
 (negB s = false →
 (decide (ptv x.i x.k ≥ (0 : Int)) = true →
 ((IntKind.i64.wrap (IntKind.i64.wrap ((↑(restB s).length : Int) - ptv x.i x.k) - (1 : Int)) == (0 : Int)) = true →
 RetIs (AV.tup [AV.int IntKind.i64 (0 : Int), AV.int IntKind.i64 (3 : Int)]) []
 (AV.tup [AV.int IntKind.i64 (decP s).fst, AV.int IntKind.i64 (decP s).snd], [])) ∧
 ((IntKind.i64.wrap (IntKind.i64.wrap ((↑(restB s).length : Int) - ptv x.i x.k) - (1 : Int)) == (0 : Int)) = false →
 (decide (IntKind.i64.wrap (IntKind.i64.wrap ((↑(restB s).length : Int) - ptv x.i x.k) - (1 : Int)) > (6 : Int)) = true →
 RetIs (AV.tup [AV.int IntKind.i64 (0 : Int), AV.int IntKind.i64 (3 : Int)]) []
 (AV.tup [AV.int IntKind.i64 (decP s).fst, AV.int IntKind.i64 (decP s).snd], [])) ∧
 (decide (IntKind.i64.wrap (IntKind.i64.wrap ((↑(restB s).length : Int) - ptv x.i x.k) - (1 : Int)) > (6 : Int)) = false →
 ((restB s == []) = true →
 RetIs (AV.tup [AV.int IntKind.i64 (0 : Int), AV.int IntKind.i64 (3 : Int)]) []
 (AV.tup [AV.int IntKind.i64 (decP s).fst, AV.int IntKind.i64 (decP s).snd], [])) ∧
 ((restB s == []) = false →
 ((0 : Int) ≤
 IntKind.i64.wrap
 ((6 : Int) - IntKind.i64.wrap (IntKind.i64.wrap ((↑(restB s).length : Int) - ptv x.i x.k) - (1 : Int))) ∧
 IntKind.i64.wrap
 ((6 : Int) - IntKind.i64.wrap (IntKind.i64.wrap ((↑(restB s).length : Int) - ptv x.i x.k) - (1 : Int))) <
 (7 : Int)) ∧
 ∃ (n : Int),
 takeAt PZ (nat_lit 3)
 [AV.agg
 [AV.int IntKind.i64 (1 : Int), AV.int IntKind.i64 (10 : Int), AV.int IntKind.i64 (100 : Int),
 AV.int IntKind.i64 (1000 : Int), AV.int IntKind.i64 (10000 : Int), AV.int IntKind.i64 (100000 : Int),
 AV.int IntKind.i64 (1000000 : Int)]]
 (nat_lit 0)
 (nat_lit 0 +
 (IntKind.i64.wrap
 ((6 : Int) -
 IntKind.i64.wrap
 (IntKind.i64.wrap ((↑(restB s).length : Int) - ptv x.i x.k) - (1 : Int)))).toNat *
 nat_lit 1) =
 some (AV.int IntKind.i64 n) ∧
 n ≠ (0 : Int) ∧
 (decide (x.x > IntKind.i64.wrap (Int.tdiv (1152921504606846976 : Int) n)) = true →
 RetIs (AV.tup [AV.int IntKind.i64 (0 : Int), AV.int IntKind.i64 (2 : Int)]) []
 (AV.tup [AV.int IntKind.i64 (decP s).fst, AV.int IntKind.i64 (decP s).snd], [])) ∧
 (decide (x.x > IntKind.i64.wrap (Int.tdiv (1152921504606846976 : Int) n)) = false →
 RetIs (AV.tup [AV.int IntKind.i64 (IntKind.i64.wrap (x.x * n)), AV.int IntKind.i64 (0 : Int)]) []
 (AV.tup [AV.int IntKind.i64 (decP s).fst, AV.int IntKind.i64 (decP s).snd], [])))))) ∧
 (decide (ptv x.i x.k ≥ (0 : Int)) = false →
 ((restB s == []) = true →
 RetIs (AV.tup [AV.int IntKind.i64 (0 : Int), AV.int IntKind.i64 (3 : Int)]) []
 (AV.tup [AV.int IntKind.i64 (decP s).fst, AV.int IntKind.i64 (decP s).snd], [])) ∧
 ((restB s == []) = false →
 ((0 : Int) ≤ (6 : Int) ∧ (6 : Int) < (7 : Int)) ∧
 ∃ (n : Int),
 some (AV.int IntKind.i64 (1000000 : Int)) = some (AV.int IntKind.i64 n) ∧
 n ≠ (0 : Int) ∧
 (decide (x.x > IntKind.i64.wrap (Int.tdiv (1152921504606846976 : Int) n)) = true →
 RetIs (AV.tup [AV.int IntKind.i64 (0 : Int), AV.int IntKind.i64 (2 : Int)]) []
 (AV.tup [AV.int IntKind.i64 (decP s).fst, AV.int IntKind.i64 (decP s).snd], [])) ∧
 (decide (x.x > IntKind.i64.wrap (Int.tdiv (1152921504606846976 : Int) n)) = false →
 RetIs (AV.tup [AV.int IntKind.i64 (IntKind.i64.wrap (x.x * n)), AV.int IntKind.i64 (0 : Int)]) []
 (AV.tup [AV.int IntKind.i64 (decP s).fst, AV.int IntKind.i64 (decP s).snd], []))))))) ∧
  True ∧ True) := by kernel_rfl
theorem dfold_succ {r : List UInt8} {i : Nat} (h : i < r.length) : dfold (r.take (i + 1)) = dstep (dfold (r.take i)) r[i] := by
  unfold dfold
  rw [List.take_succ_eq_append_getElem h, List.foldl_append]
  rfl
theorem dfold_fail {r : List UInt8} {i : Nat} (h : i < r.length) (hn : dstep (dfold (r.take i)) r[i] = none) : dfold r = none := by
  have e : r = r.take (i + 1) ++ r.drop (i + 1) := (List.take_append_drop _ _).symm
  have := dfold_succ h
  rw [hn] at this
  conv => lhs; rw [e]
  unfold dfold at this ⊢
  rw [List.foldl_append, this, dfold_none]
theorem valL_snoc (l : List UInt8) (c : UInt8) : valL (l ++ [c]) = 10 * valL l + (c.toNat - 48) := by simp [valL]
theorem tens_at {j : Nat} (h : j ≤ 6) : takeAt PZ 3 [tensA] 0 j = some (.int .i64 ((10 ^ j : Nat) : Int)) := by
  have ha : aggA PZ 3 = some false := by kernel_rfl
  have hs : ∃ s, sizeA PZ 3 = some s := ⟨1, by kernel_rfl⟩
  obtain ⟨s, hs⟩ := hs
  match j, h with
  | 0, _ | 1, _ | 2, _ | 3, _ | 4, _ | 5, _ | 6, _ => simp only [takeAt, List.getElem?_cons_zero, ha, hs, takeA, tensA, AV.cells]; rfl
theorem tdiv10 {x d : Int} (_hx : 0 ≤ x) (hd : 0 ≤ d) (hd9 : d ≤ 9) : (IntKind.i64.wrap ((IntKind.i64.wrap (1152921504606846976 - IntKind.i64.wrap d)).tdiv 10) < x) ↔ 1152921504606846976 < 10 * x + d := by
  rw [wrap64_in (n := d) (by omega) (by omega), wrap64_in (n := 1152921504606846976 - d) (by omega) (by omega), Int.tdiv_eq_ediv_of_nonneg (by omega), wrap64_in (by omega) (by omega)]
  omega
theorem tdivp {x : Int} {p : Nat} (_hx : 0 ≤ x) (hp : 0 < p) (hp6 : p ≤ 1000000) : (IntKind.i64.wrap (Int.tdiv 1152921504606846976 p) < x) ↔ 1152921504606846976 < x * p := by
  rw [Int.tdiv_eq_ediv_of_nonneg (by omega)]
  have h1 : (1152921504606846976 : Int) / p ≤ 1152921504606846976 := Int.ediv_le_self _ (by omega)
  have h2 : (0 : Int) ≤ 1152921504606846976 / p := Int.ediv_nonneg (by omega) (by omega)
  rw [wrap64_in (by omega) (by omega), Int.ediv_lt_iff_lt_mul (by omega)]
theorem wrap8_in {n : Int} (h0 : 0 ≤ n) (h1 : n < 256) : IntKind.u8.wrap n = n := by
  simp only [IntKind.wrap, IntKind.bits, IntKind.signed]
  simp
  omega
theorem p12 (m : Int) (s : List UInt8) (hl : s.length ≤ 1000000) : PureOk PZ (GZ m) XL (tbl []) (itbl []) (a12 s) [] 12 [.str s] (.tup [.int .i64 (decP s).1, .int .i64 (decP s).2], []) := by
  constructor
  rw [w12]
  have hdec : decP s = decR (negB s) (restB s) := rfl
  have hrl : (restB s).length ≤ 1000000 := by
    unfold restB; split
    · rw [List.length_drop]; omega
    · exact hl
  have fail : dfold (restB s) = none → decP s = (0, 3) := fun h => by rw [hdec, decR, h]
  simp only [valsAre_iff, stIs_iff, retIs_iff, decide_eq_true_eq, decide_eq_false_iff_not, gt_iff_lt, ge_iff_le, List.cons.injEq, AV.int.injEq, AV.tup.injEq, AV.str.injEq, AV.bool.injEq, Prod.mk.injEq, and_true, true_and, beq_iff_eq, beq_eq_false_iff_ne, ne_eq, Bool.not_eq_true', Bool.not_eq_false', Int.toNat_natCast, Nat.zero_add, Nat.mul_one, true_implies]
  have hptv : ∀ (x : X12), Inv12 (restB s) x → (ptv x.i x.k < 0 ↔ x.k = none) := fun x hx => by
    cases hk : x.k with
    | none => simp [ptv]
    | some j =>
      have := (hx.k j hk).1
      simp only [ptv, reduceCtorEq, iff_false]
      omega
  have hstep : ∀ (i : Nat) (k : Option Nat), ptv i k = ptv (i + 1) (k.map (· + 1)) := fun i k => by
    cases k with
    | none => rfl
    | some j => simp only [ptv, Option.map_some]; omega
  refine ⟨⟨fun hne => ⟨by omega, ?_⟩, fun he => ⟨(), ?_, ?_⟩⟩, fun _ => ⟨⟨⟨⟨0, [], none, 0, false⟩, ⟨rfl, rfl, rfl, rfl⟩, ?_⟩, fun x hx => ?_⟩, fun x hx => ?_⟩⟩
  · cases s with
    | nil => exact absurd rfl hne
    | cons c t =>
      refine ⟨c, rfl, fun h => ⟨by omega, ⟨by simp, Nat.le_refl _⟩, (), ?_, ?_⟩, fun h => ⟨(), ?_, ?_⟩⟩
      · have hc : c = 45 := by rw [← UInt8.toNat_inj]; show c.toNat = 45; omega
        simp [restB, negB, hc]
      · have hc : c = 45 := by rw [← UInt8.toNat_inj]; show c.toNat = 45; omega
        simp [negB, hc]
      · have hc : c ≠ 45 := by rintro rfl; exact h rfl
        simp [restB, negB, hc]
      · have hc : c ≠ 45 := by rintro rfl; exact h rfl
        simp [negB, hc]
  · subst he; rfl
  · subst he; rfl
  · exact ⟨by simp, rfl, fun j h => by simp at h, fun _ => rfl, fun _ => ⟨rfl, by simp [valL]⟩, fun h => by simp at h, by simp⟩
  · have hpt := hptv x hx
    obtain ⟨hi, hf, hk, hk0, hsm, hgr, hx0⟩ := hx
    have hend : ¬ (x.i : Int) < (restB s).length → End12 (restB s) x := fun h => ⟨⟨hi, hf, hk, hk0, hsm, hgr, hx0⟩, by omega⟩
    have core : ∀ (hlt : x.i < (restB s).length) (c : UInt8), (restB s)[x.i] = c →
        (dstep (some (x.ds, x.k)) c = none → 0 = (decP s).1 ∧ 3 = (decP s).2) ∧
        (∀ y : X12, y.i = x.i + 1 → dstep (some (x.ds, x.k)) c = some (y.ds, y.k) → (∀ j, y.k = some j → j + 1 ≤ y.i ∧ y.ds ≠ []) → (y.k = none → y.ds.length = y.i) → (y.big = false → y.x = valL y.ds ∧ valL y.ds ≤ 1152921504606846976) → (y.big = true → 1152921504606846976 < valL y.ds) → (0 ≤ y.x ∧ y.x ≤ 1152921504606846976) → Inv12 (restB s) y) := fun hlt c hc => by
      constructor
      · intro hn
        have := fail (dfold_fail hlt (by rw [hf, hc]; exact hn))
        rw [this]; exact ⟨rfl, rfl⟩
      · intro y hy hd h1 h2 h3 h4 h5
        exact ⟨by omega, by rw [hy, dfold_succ hlt, hf, hc]; exact hd, h1, h2, h3, h4, h5⟩
    have nodig : ∀ c : UInt8, ¬ (48 ≤ c.toNat ∧ c.toNat ≤ 57) → ¬ (c = 46 ∧ x.k = none ∧ x.ds ≠ []) → dstep (some (x.ds, x.k)) c = none := fun c h1 h2 => by
      simp only [dstep]; rw [if_neg h2, if_neg (by rw [digitB_iff]; exact h1)]
    have dig : ∀ c : UInt8, (48 ≤ c.toNat ∧ c.toNat ≤ 57) → dstep (some (x.ds, x.k)) c = some (x.ds ++ [c], x.k.map (· + 1)) := fun c h1 => by
      have : c ≠ 46 := by rintro rfl; simp at h1
      simp only [dstep]; rw [if_neg (fun h => this h.1), if_pos (by rw [digitB_iff]; exact h1)]
    have kdig : ∀ c : UInt8, (∀ j, x.k.map (· + 1) = some j → j + 1 ≤ x.i + 1 ∧ x.ds ++ [c] ≠ []) ∧ (x.k.map (· + 1) = none → (x.ds ++ [c]).length = x.i + 1) := fun c => by
      constructor
      · intro j hj
        cases hkk : x.k with
        | none => rw [hkk] at hj; simp at hj
        | some a => rw [hkk] at hj; simp at hj; have := (hk a hkk).1; exact ⟨by omega, by simp⟩
      · intro hj
        have : x.k = none := by simpa using hj
        rw [List.length_append, hk0 this]; rfl
    have pt : ∀ (hlt : x.i < (restB s).length) (c : UInt8), (restB s)[x.i] = c → (c.toNat : Int) = 46 → ptv x.i x.k < 0 → 0 < (x.i : Int) → ∃ y : X12, (x.x = y.x ∧ (x.i : Int) = ptv y.i y.k ∧ x.big = y.big ∧ IntKind.i64.wrap ((x.i : Int) + 1) = y.i) ∧ Inv12 (restB s) y ∧ (restB s).length - y.i < (restB s).length - x.i := fun hlt c hc h46 hp h0 => by
      have hc46 : c = 46 := by rw [← UInt8.toNat_inj]; show c.toNat = 46; omega
      have hkn := hpt.1 hp
      have hdn : x.ds ≠ [] := by intro e; have := hk0 hkn; rw [e] at this; simp at this; omega
      refine ⟨⟨x.i + 1, x.ds, some 0, x.x, x.big⟩, ⟨rfl, by simp only [ptv]; omega, rfl, by rw [wrap64_in (by omega) (by omega)]; simp⟩, ?_, by simp only; omega⟩
      refine (core hlt c hc).2 _ rfl ?_ ?_ ?_ hsm hgr hx0
      · simp only [dstep]; rw [if_pos ⟨hc46, hkn, hdn⟩]
      · intro j hj; simp at hj; subst hj; exact ⟨by simp, hdn⟩
      · intro hj; simp at hj
    have bad : ∀ (hlt : x.i < (restB s).length) (c : UInt8), (restB s)[x.i] = c → ¬ ((c.toNat : Int) = 46 ∧ ptv x.i x.k < 0 ∧ 0 < (x.i : Int)) → ((c.toNat : Int) < 48 ∨ 57 < (c.toNat : Int)) → 0 = (decP s).1 ∧ 3 = (decP s).2 := fun hlt c hc h1 h2 => by
      refine (core hlt c hc).1 (nodig c (by omega) ?_)
      rintro ⟨rfl, hkn, hdn⟩
      refine h1 ⟨rfl, hpt.2 hkn, ?_⟩
      have := hk0 hkn
      have := List.length_pos_iff.2 hdn
      omega
    have dbig : ∀ (hlt : x.i < (restB s).length) (c : UInt8), (restB s)[x.i] = c → ¬ (c.toNat : Int) < 48 → ¬ 57 < (c.toNat : Int) → 1152921504606846976 < valL (x.ds ++ [c]) → ∃ y : X12, (x.x = y.x ∧ ptv x.i x.k = ptv y.i y.k ∧ true = y.big ∧ IntKind.i64.wrap ((x.i : Int) + 1) = y.i) ∧ Inv12 (restB s) y ∧ (restB s).length - y.i < (restB s).length - x.i := fun hlt c hc h1 h2 hv => by
      refine ⟨⟨x.i + 1, x.ds ++ [c], x.k.map (· + 1), x.x, true⟩, ⟨rfl, hstep _ _, rfl, by rw [wrap64_in (by omega) (by omega)]; simp⟩, ?_, by simp only; omega⟩
      exact (core hlt c hc).2 _ rfl (dig c (by omega)) (kdig c).1 (kdig c).2 (fun h => by simp at h) (fun _ => hv) hx0
    refine ⟨fun hb => ⟨fun hlt => ?_, fun hge => ⟨x, ⟨rfl, rfl, hb.symm⟩, hend hge⟩⟩, fun hb => ⟨fun hlt => ?_, fun hge => ⟨x, ⟨rfl, rfl, hb.symm⟩, hend hge⟩⟩⟩
    · have hlt' : x.i < (restB s).length := by omega
      have hg := hgr hb
      have pt' := pt hlt' _ rfl
      rw [hb] at pt'
      have hv : 1152921504606846976 < valL (x.ds ++ [(restB s)[x.i]]) := by rw [valL_snoc]; omega
      have bad' := bad hlt' _ rfl
      have db := fun h1 h2 => dbig hlt' _ rfl h1 h2 hv
      refine ⟨by omega, (restB s)[x.i], List.getElem?_eq_getElem hlt', ?_⟩
      generalize (restB s)[x.i] = c at *
      exact ⟨fun h46 => ⟨fun hp => ⟨fun h0 => pt' h46 hp h0, fun h0 => ⟨fun h => bad' (fun h' => h0 h'.2.2) (.inl h), fun h => ⟨fun h' => bad' (fun h'' => h0 h''.2.2) (.inr h'), fun h' => db h h'⟩⟩⟩, fun hp => ⟨fun h => bad' (fun h' => hp h'.2.1) (.inl h), fun h => ⟨fun h' => bad' (fun h'' => hp h''.2.1) (.inr h'), fun h' => db h h'⟩⟩⟩, fun h46 => ⟨fun h => bad' (fun h' => h46 h'.1) (.inl h), fun h => ⟨fun h' => bad' (fun h'' => h46 h''.1) (.inr h'), fun h' => db h h'⟩⟩⟩
    · have hlt' : x.i < (restB s).length := by omega
      obtain ⟨hxv, hvm⟩ := hsm hb
      have pt' := pt hlt' _ rfl
      rw [hb] at pt'
      have bad' := bad hlt' _ rfl
      have db := dbig hlt' (restB s)[x.i] rfl
      have core' := (core hlt' (restB s)[x.i] rfl).2
      refine ⟨by omega, (restB s)[x.i], List.getElem?_eq_getElem hlt', ?_⟩
      generalize (restB s)[x.i] = c at *
      have dg : ¬ (c.toNat : Int) < 48 → ¬ 57 < (c.toNat : Int) → ¬ (10 : Int) = 0 ∧ (IntKind.i64.wrap ((IntKind.i64.wrap (1152921504606846976 - IntKind.i64.wrap (IntKind.u8.wrap ((c.toNat : Int) - 48)))).tdiv 10) < x.x → ∃ y : X12, (x.x = y.x ∧ ptv x.i x.k = ptv y.i y.k ∧ true = y.big ∧ IntKind.i64.wrap ((x.i : Int) + 1) = y.i) ∧ Inv12 (restB s) y ∧ (restB s).length - y.i < (restB s).length - x.i) ∧
 (¬ IntKind.i64.wrap ((IntKind.i64.wrap (1152921504606846976 - IntKind.i64.wrap (IntKind.u8.wrap ((c.toNat : Int) - 48)))).tdiv 10) < x.x → ∃ y : X12, (IntKind.i64.wrap (IntKind.i64.wrap (10 * x.x) + IntKind.i64.wrap (IntKind.u8.wrap ((c.toNat : Int) - 48))) = y.x ∧ ptv x.i x.k = ptv y.i y.k ∧ false = y.big ∧ IntKind.i64.wrap ((x.i : Int) + 1) = y.i) ∧ Inv12 (restB s) y ∧ (restB s).length - y.i < (restB s).length - x.i) := fun h1 h2 => by
        have hw8 : IntKind.u8.wrap ((c.toNat : Int) - 48) = (c.toNat : Int) - 48 := wrap8_in (by omega) (by omega)
        rw [hw8, tdiv10 hx0.1 (by omega) (by omega)]
        have hvs := valL_snoc x.ds c
        refine ⟨by omega, fun h => db h1 h2 (by rw [hvs]; omega), fun h => ?_⟩
        rw [wrap64_in (n := (c.toNat : Int) - 48) (by omega) (by omega), wrap64_in (n := 10 * x.x) (by omega) (by omega), wrap64_in (n := 10 * x.x + ((c.toNat : Int) - 48)) (by omega) (by omega)]
        refine ⟨⟨x.i + 1, x.ds ++ [c], x.k.map (· + 1), 10 * x.x + ((c.toNat : Int) - 48), false⟩, ⟨rfl, hstep _ _, rfl, by rw [wrap64_in (by omega) (by omega)]; simp⟩, ?_, by simp only; omega⟩
        exact core' _ rfl (dig c (by omega)) (kdig c).1 (kdig c).2 (fun _ => by dsimp only; rw [hvs]; constructor <;> omega) (fun h => by simp at h) (by simp only; omega)
      exact ⟨fun h46 => ⟨fun hp => ⟨fun h0 => pt' h46 hp h0, fun h0 => ⟨fun h => bad' (fun h' => h0 h'.2.2) (.inl h), fun h => ⟨fun h' => bad' (fun h'' => h0 h''.2.2) (.inr h'), fun h' => dg h h'⟩⟩⟩, fun hp => ⟨fun h => bad' (fun h' => hp h'.2.1) (.inl h), fun h => ⟨fun h' => bad' (fun h'' => hp h''.2.1) (.inr h'), fun h' => dg h h'⟩⟩⟩, fun h46 => ⟨fun h => bad' (fun h' => h46 h'.1) (.inl h), fun h => ⟨fun h' => bad' (fun h'' => h46 h''.1) (.inr h'), fun h' => dg h h'⟩⟩⟩
  · obtain ⟨hx, hie⟩ := hx
    have hpt := hptv x hx
    obtain ⟨hi, hf, hk, hk0, hsm, hgr, hx0⟩ := hx
    rw [hie, List.take_length] at hf
    have hR : decP s = if x.ds = [] ∨ x.k = some 0 ∨ 6 < x.k.getD 0 then (0, 3) else decFin (negB s) (valL x.ds) (x.k.getD 0) := by rw [hdec, decR, hf]
    have hnil : restB s = [] ↔ x.i = 0 := by rw [hie]; exact List.length_eq_zero_iff.symm
    have hdw : ∀ j, x.k = some j → IntKind.i64.wrap (IntKind.i64.wrap (((restB s).length : Int) - ptv x.i x.k) - 1) = j := fun j hj => by
      have := (hk j hj).1
      simp only [hj, ptv]
      rw [wrap64_in (n := ((restB s).length : Int) - (x.i - j - 1)) (by omega) (by omega), wrap64_in (by omega) (by omega)]
      omega
    have ten : ∀ j : Nat, j ≤ 6 → 0 < 10 ^ (6 - j) ∧ 10 ^ (6 - j) ≤ 1000000 := fun j hj => by
      constructor
      · exact Nat.pow_pos (by omega)
      · exact Nat.pow_le_pow_right (n := 10) (by omega) (show 6 - j ≤ 6 by omega)
    have nofail : ∀ j, x.ds ≠ [] → (x.k = some j ∧ j ≠ 0 ∧ j ≤ 6 ∨ x.k = none ∧ j = 0) → x.k.getD 0 = j → j ≤ 6 → ¬ (x.ds = [] ∨ x.k = some 0 ∨ 6 < x.k.getD 0) := fun j hd hj hkj h6 => by
      rintro (h | h | h)
      · exact hd h
      · rcases hj with ⟨h', h2, _⟩ | ⟨h', _⟩
        · rw [h'] at h; simp only [Option.some.injEq] at h; exact h2 h
        · rw [h'] at h; cases h
      · rw [hkj] at h; omega
    have great : x.big = true → ∀ j, x.ds ≠ [] → (x.k = some j ∧ j ≠ 0 ∧ j ≤ 6 ∨ x.k = none ∧ j = 0) → 0 = (decP s).1 ∧ 2 = (decP s).2 := fun hb j hd hj => by
      have hg := hgr hb
      have hkj : x.k.getD 0 = j := by rcases hj with ⟨h, _⟩ | ⟨h, h2⟩ <;> simp [h]; omega
      have h6 : j ≤ 6 := by omega
      rw [hR, if_neg (nofail j hd hj hkj h6), hkj, decFin, if_pos]
      · exact ⟨rfl, rfl⟩
      · have := Nat.le_mul_of_pos_right (valL x.ds) (ten j h6).1
        omega
    have small : x.big = false → ∀ j, x.ds ≠ [] → (x.k = some j ∧ j ≠ 0 ∧ j ≤ 6 ∨ x.k = none ∧ j = 0) → ¬ ((10 ^ (6 - j) : Nat) : Int) = 0 ∧ (IntKind.i64.wrap (Int.tdiv 1152921504606846976 ((10 ^ (6 - j) : Nat) : Int)) < x.x → 0 = (decP s).1 ∧ 2 = (decP s).2) ∧
        (¬ IntKind.i64.wrap (Int.tdiv 1152921504606846976 ((10 ^ (6 - j) : Nat) : Int)) < x.x → (negB s = true → IntKind.i64.wrap (0 - IntKind.i64.wrap (x.x * ((10 ^ (6 - j) : Nat) : Int))) = (decP s).1 ∧ 0 = (decP s).2) ∧ (negB s = false → IntKind.i64.wrap (x.x * ((10 ^ (6 - j) : Nat) : Int)) = (decP s).1 ∧ 0 = (decP s).2)) := fun hb j hd hj => by
      obtain ⟨hxv, hvm⟩ := hsm hb
      have hkj : x.k.getD 0 = j := by rcases hj with ⟨h, _⟩ | ⟨h, h2⟩ <;> simp [h]; omega
      have h6 : j ≤ 6 := by omega
      obtain ⟨t1, t2⟩ := ten j h6
      rw [hR, if_neg (nofail j hd hj hkj h6), hkj, decFin, tdivp hx0.1 t1 t2, hxv]
      generalize hp : 10 ^ (6 - j) = p at *
      have hmul : ((valL x.ds : Nat) : Int) * (p : Int) = ((valL x.ds * p : Nat) : Int) := by simp
      rw [hmul]
      generalize valL x.ds * p = q
      refine ⟨by omega, fun h => ?_, fun h => ?_⟩
      · rw [if_pos (by omega)]; exact ⟨rfl, rfl⟩
      · rw [if_neg (by omega), wrap64_in (n := (q : Int)) (by omega) (by omega), wrap64_in (n := 0 - (q : Int)) (by omega) (by omega)]
        refine ⟨fun hn => ?_, fun hn => ?_⟩
        · rw [hn, if_pos rfl]; exact ⟨by dsimp only; omega, rfl⟩
        · rw [hn, if_neg (by simp)]; exact ⟨rfl, rfl⟩
    have f0 : x.ds = [] → 0 = (decP s).1 ∧ 3 = (decP s).2 := fun h => by rw [hR, if_pos (.inl h)]; exact ⟨rfl, rfl⟩
    have fk : ∀ j, x.k = some j → (j = 0 ∨ 6 < j) → 0 = (decP s).1 ∧ 3 = (decP s).2 := fun j h h2 => by
      rw [hR, if_pos]
      · exact ⟨rfl, rfl⟩
      · rcases h2 with rfl | h2
        · exact .inr (.inl h)
        · exact .inr (.inr (by rw [h]; exact h2))
    cases hkx : x.k with
    | none =>
      have hneg : ¬ 0 ≤ ptv x.i none := by simp [ptv]
      have hl0 := hk0 hkx
      have hd1 : restB s = [] → x.ds = [] := fun h => List.length_eq_zero_iff.1 (by rw [hl0]; exact hnil.1 h)
      have hd2 : ¬ restB s = [] → x.ds ≠ [] := fun h e => h (hnil.2 (by rw [← hl0, e]; rfl))
      have g2 := fun hb hr => great hb 0 (hd2 hr) (.inr ⟨hkx, rfl⟩)
      have s2 := fun hb hr => small hb 0 (hd2 hr) (.inr ⟨hkx, rfl⟩)
      rw [show ((10 ^ (6 - 0) : Nat) : Int) = 1000000 from rfl] at s2
      refine ⟨fun hb => ⟨fun hn => ⟨fun h => absurd h hneg, fun _ => ⟨fun h => f0 (hd1 h), fun h => ⟨⟨by omega, by omega⟩, 1000000, rfl, g2 hb h⟩⟩⟩, fun hn => ⟨fun h => absurd h hneg, fun _ => ⟨fun h => f0 (hd1 h), fun h => ⟨⟨by omega, by omega⟩, 1000000, rfl, g2 hb h⟩⟩⟩⟩,
        fun hb => ⟨fun hn => ⟨fun h => absurd h hneg, fun _ => ⟨fun h => f0 (hd1 h), fun h => ⟨⟨by omega, by omega⟩, 1000000, rfl, (s2 hb h).1, (s2 hb h).2.1, fun h' => ((s2 hb h).2.2 h').1 hn⟩⟩⟩, fun hn => ⟨fun h => absurd h hneg, fun _ => ⟨fun h => f0 (hd1 h), fun h => ⟨⟨by omega, by omega⟩, 1000000, rfl, (s2 hb h).1, (s2 hb h).2.1, fun h' => ((s2 hb h).2.2 h').2 hn⟩⟩⟩⟩⟩
    | some j =>
      have hw := hdw j hkx
      rw [hkx] at hw
      have hkj := hk j hkx
      have hpos : 0 ≤ ptv x.i (some j) := by simp only [ptv]; omega
      have hw6 : j ≤ 6 → IntKind.i64.wrap (6 - (j : Int)) = ((6 - j : Nat) : Int) := fun h => by rw [wrap64_in (by omega) (by omega)]; omega
      simp only [hw]
      have g2 := fun hb (h1 : ¬ (j : Int) = 0) (h2 : ¬ 6 < (j : Int)) => great hb j hkj.2 (.inl ⟨hkx, by omega, by omega⟩)
      have s2 := fun hb (h1 : ¬ (j : Int) = 0) (h2 : ¬ 6 < (j : Int)) => small hb j hkj.2 (.inl ⟨hkx, by omega, by omega⟩)
      have tk := fun (h2 : ¬ 6 < (j : Int)) => show takeAt PZ 3 [tensA] 0 (IntKind.i64.wrap (6 - (j : Int))).toNat = some (.int .i64 ((10 ^ (6 - j) : Nat) : Int)) by rw [hw6 (by omega), Int.toNat_natCast]; exact tens_at (by omega)
      have bd := fun (h2 : ¬ 6 < (j : Int)) => show 0 ≤ IntKind.i64.wrap (6 - (j : Int)) ∧ IntKind.i64.wrap (6 - (j : Int)) < 7 by rw [hw6 (by omega)]; omega
      have e0 : restB s = [] → 0 = (decP s).1 ∧ 3 = (decP s).2 := fun h => by have := hnil.1 h; omega
      refine ⟨fun hb => ⟨fun hn => ⟨fun _ => ⟨fun h => fk j hkx (.inl (by omega)), fun h1 => ⟨fun h => fk j hkx (.inr (by omega)), fun h2 => ⟨e0, fun _ => ⟨bd h2, _, tk h2, g2 hb h1 h2⟩⟩⟩⟩, fun h => absurd hpos h⟩, fun hn => ⟨fun _ => ⟨fun h => fk j hkx (.inl (by omega)), fun h1 => ⟨fun h => fk j hkx (.inr (by omega)), fun h2 => ⟨e0, fun _ => ⟨bd h2, _, tk h2, g2 hb h1 h2⟩⟩⟩⟩, fun h => absurd hpos h⟩⟩,
        fun hb => ⟨fun hn => ⟨fun _ => ⟨fun h => fk j hkx (.inl (by omega)), fun h1 => ⟨fun h => fk j hkx (.inr (by omega)), fun h2 => ⟨e0, fun _ => ⟨bd h2, _, tk h2, (s2 hb h1 h2).1, (s2 hb h1 h2).2.1, fun h' => ((s2 hb h1 h2).2.2 h').1 hn⟩⟩⟩⟩, fun h => absurd hpos h⟩, fun hn => ⟨fun _ => ⟨fun h => fk j hkx (.inl (by omega)), fun h1 => ⟨fun h => fk j hkx (.inr (by omega)), fun h2 => ⟨e0, fun _ => ⟨bd h2, _, tk h2, (s2 hb h1 h2).1, (s2 hb h1 h2).2.1, fun h' => ((s2 hb h1 h2).2.2 h').2 hn⟩⟩⟩⟩, fun h => absurd hpos h⟩⟩⟩
theorem o12 (m : Int) : SpecOk PZ (GZ m) 12 s12 := spec_of (X := XL) (m := []) mixedZ tbl_nil itbl_nil fun args r h => by
  unfold s12 at h
  split at h
  · split at h
    · rename_i hl
      injection h with h; subst h; exact ⟨a12 _, p12 m _ hl⟩
    · cases h
  · cases h
end Go.Abs

namespace Go.Abs
open Go.Proofs L8
def lowD : Nat → Nat → List UInt8
  | 0, _ => []
  | k + 1, n => lowD k (n / 10) ++ [UInt8.ofNat (48 + n % 10)]
/-- digits that are still to come in front -/
def restD (i n : Nat) : List UInt8 := if n < 10 ^ (7 - i) then lowD (7 - i) n else Lib.decDigits n
def padD (n : Nat) : List UInt8 := restD 0 n
def signL (n : Int) : List UInt8 := if n < 0 then [45] else []
def pointL (l : List UInt8) : List UInt8 := l.take (l.length - 6) ++ 46 :: l.drop (l.length - 6)
/-- the text of a decimal -/
def decF (n : Int) : List UInt8 := signL n ++ pointL (padD n.natAbs)
def sInt (f : Int → AV) : Spec := fun args => match args with
  | [.int .i64 n] => if i64Ok n then some (f n, []) else none
  | _ => none
def s55 : Spec := sInt fun n => .str (decF n)
def s59 : Spec := fun args => match args with
  | [.bool b] => some (.str (if b = true then [116, 114, 117, 101] else [102, 97, 108, 115, 101]), [])
  | _ => none
structure X54 where
  i : Nat
  m : Int
  s : List UInt8
structure I55 (n : Int) (x : X54) : Prop where
  i : x.i ≤ 20
  b : x.m.natAbs < 10 ^ (20 - x.i)
  p : 0 ≤ n → 0 ≤ x.m
  q : n < 0 → x.m ≤ 0
  l : x.m.natAbs ≤ n.natAbs
  e : x.i ≤ 6 → restD x.i x.m.natAbs ++ x.s = padD n.natAbs ∧ x.s.length = x.i
  f : 7 ≤ x.i → ∃ a b, x.s = a ++ 46 :: b ∧ b.length = 6 ∧ restD x.i x.m.natAbs ++ a ++ b = padD n.natAbs
structure I15 (n : Int) (s : List UInt8) : Prop where
  e : ∃ k, s = List.replicate k 48 ++ Lib.decDigits n.natAbs ∧ (k = 0 ∨ s.length ≤ 7)
def a15 (n : Int) : Anns := ⟨fun q => if q = 5 then some { α := List UInt8, slots := [3, 4], nb := 0, vals := fun s => [.str s, .str (signL n)], sS := fun _ => ⟨[], []⟩, I := I15 n, μ := fun s => 7 - s.length } else none, nA⟩
def fmtL (k n : Int) (s : List UInt8) : List UInt8 :=
  if validB k n s = false then [] else
  if k = 1 then (if n = 1 then [116, 114, 117, 101] else [102, 97, 108, 115, 101]) else
  if k = 2 then Lib.itoa n else if k = 3 then decF n else if k = 4 then [34] ++ s ++ [34] else if k = 5 then [64] ++ s else [110, 117, 108, 108]
def sVal' (f : Int → Int → List UInt8 → AV) : Spec := fun args => match args with
  | [.agg [.int .i64 k, .int .i64 n, .str s]] => if strOk s ∧ i64Ok n then some (f k n s, []) else none
  | _ => none
def s10 : Spec := sVal' fun k n s => .str (fmtL k n s)
def XT : Shapes := fun f => match f with
  | 23 | 24 | 25 | 26 | 27 | 28 | 40 | 59 | 35 | 15 | 10 | 31 | 42 | 43 => some shS
  | 30 | 41 | 32 => some shB
  | 12 => some (.tup [.one (.int .i64), .one (.int .i64)], none)
  | 33 => some (.tup [.one (.int .i64), .one .err], none)
  | 13 => some (.tup [.agg [.int .i64, .int .i64, .str], .one (.int .i64)], none)
  | f => XO f
end Go.Abs

namespace Go.Abs
open Go.Proofs L8
theorem w15 (m n : Int) (r : AV) : (pureW PZ (GZ m) XT (tbl [(35, s35)]) (itbl []) (a15 n) [] 15 [.int .i64 n] (r, [])) =
(∃ (s : List UInt8),
  CallIs (tbl [(nat_lit 35, s35)] (nat_lit 35) [AV.int IntKind.i64 n]) (AV.str s) [] ∧
    (decide (n < (0 : Int)) = true →
        (0 : Int) ≤ (1 : Int) ∧
 (nat_lit 1 ≤ s.length ∧ s.length ≤ s.length) ∧
 (∃ (y : List UInt8),
 ValsAre [AV.str (List.drop (nat_lit 1) (List.take s.length s)), AV.str [(45 : UInt8)]] [AV.str y, AV.str (signL n)] ∧
 StIs { boxes := [], live := [] } { boxes := [], live := [] } ∧ I15 n y ∧ True) ∧
 ∀ (x : List UInt8),
 I15 n x →
 (decide ((↑x.length : Int) ≤ (6 : Int)) = true →
 nat_lit 1 + x.length ≤ nat_lit 9223372036854775807 ∧
 ∃ (y : List UInt8),
 ValsAre [AV.str ([(48 : UInt8)] ++ x), AV.str (signL n)] [AV.str y, AV.str (signL n)] ∧
 StIs { boxes := [], live := [] } { boxes := [], live := [] } ∧ I15 n y ∧ nat_lit 7 - y.length < nat_lit 7 - x.length) ∧
 (decide ((↑x.length : Int) ≤ (6 : Int)) = false →
 (0 : Int) ≤ IntKind.i64.wrap ((↑x.length : Int) - (6 : Int)) ∧
 (nat_lit 0 ≤ (IntKind.i64.wrap ((↑x.length : Int) - (6 : Int))).toNat ∧
 (IntKind.i64.wrap ((↑x.length : Int) - (6 : Int))).toNat ≤ x.length) ∧
 (signL n).length + (List.drop (nat_lit 0) (List.take (IntKind.i64.wrap ((↑x.length : Int) - (6 : Int))).toNat x)).length ≤
 nat_lit 9223372036854775807 ∧
 (signL n ++ List.drop (nat_lit 0) (List.take (IntKind.i64.wrap ((↑x.length : Int) - (6 : Int))).toNat x)).length + nat_lit 1 ≤
 nat_lit 9223372036854775807 ∧
 (0 : Int) ≤ IntKind.i64.wrap ((↑x.length : Int) - (6 : Int)) ∧
 ((IntKind.i64.wrap ((↑x.length : Int) - (6 : Int))).toNat ≤ x.length ∧ x.length ≤ x.length) ∧
 (signL n ++ List.drop (nat_lit 0) (List.take (IntKind.i64.wrap ((↑x.length : Int) - (6 : Int))).toNat x) ++
 [(46 : UInt8)]).length +
 (List.drop (IntKind.i64.wrap ((↑x.length : Int) - (6 : Int))).toNat (List.take x.length x)).length ≤
 nat_lit 9223372036854775807 ∧
 RetIs
 (AV.str
 (signL n ++ List.drop (nat_lit 0) (List.take (IntKind.i64.wrap ((↑x.length : Int) - (6 : Int))).toNat x) ++
 [(46 : UInt8)] ++
 List.drop (IntKind.i64.wrap ((↑x.length : Int) - (6 : Int))).toNat (List.take x.length x)))
 [] (r, []))) ∧
      (decide (n < (0 : Int)) = false →
        (∃ (y : List UInt8),
 ValsAre [AV.str s, AV.str []] [AV.str y, AV.str (signL n)] ∧ StIs { boxes := [], live := [] } { boxes := [], live := [] } ∧ I15 n y ∧ True) ∧
 ∀ (x : List UInt8),
 I15 n x →
 (decide ((↑x.length : Int) ≤ (6 : Int)) = true →
 nat_lit 1 + x.length ≤ nat_lit 9223372036854775807 ∧
 ∃ (y : List UInt8),
 ValsAre [AV.str ([(48 : UInt8)] ++ x), AV.str (signL n)] [AV.str y, AV.str (signL n)] ∧
 StIs { boxes := [], live := [] } { boxes := [], live := [] } ∧ I15 n y ∧ nat_lit 7 - y.length < nat_lit 7 - x.length) ∧
 (decide ((↑x.length : Int) ≤ (6 : Int)) = false →
 (0 : Int) ≤ IntKind.i64.wrap ((↑x.length : Int) - (6 : Int)) ∧
 (nat_lit 0 ≤ (IntKind.i64.wrap ((↑x.length : Int) - (6 : Int))).toNat ∧
 (IntKind.i64.wrap ((↑x.length : Int) - (6 : Int))).toNat ≤ x.length) ∧
 (signL n).length + (List.drop (nat_lit 0) (List.take (IntKind.i64.wrap ((↑x.length : Int) - (6 : Int))).toNat x)).length ≤
 nat_lit 9223372036854775807 ∧
 (signL n ++ List.drop (nat_lit 0) (List.take (IntKind.i64.wrap ((↑x.length : Int) - (6 : Int))).toNat x)).length + nat_lit 1 ≤
 nat_lit 9223372036854775807 ∧
 (0 : Int) ≤ IntKind.i64.wrap ((↑x.length : Int) - (6 : Int)) ∧
 ((IntKind.i64.wrap ((↑x.length : Int) - (6 : Int))).toNat ≤ x.length ∧ x.length ≤ x.length) ∧
 (signL n ++ List.drop (nat_lit 0) (List.take (IntKind.i64.wrap ((↑x.length : Int) - (6 : Int))).toNat x) ++
 [(46 : UInt8)]).length +
 (List.drop (IntKind.i64.wrap ((↑x.length : Int) - (6 : Int))).toNat (List.take x.length x)).length ≤
 nat_lit 9223372036854775807 ∧
 RetIs
 (AV.str
 (signL n ++ List.drop (nat_lit 0) (List.take (IntKind.i64.wrap ((↑x.length : Int) - (6 : Int))).toNat x) ++
 [(46 : UInt8)] ++
 List.drop (IntKind.i64.wrap ((↑x.length : Int) - (6 : Int))).toNat (List.take x.length x)))
 [] (r, [])))) := by kernel_rfl
theorem w59t (m : Int) (r : AV) : (pureW PZ (GZ m) XT (tbl []) (itbl []) nAn [] 59 [.bool true] (r, [])) =
(RetIs (AV.str [(116 : UInt8), (114 : UInt8), (117 : UInt8), (101 : UInt8)]) [] (r, [])) := by kernel_rfl
theorem w59f (m : Int) (r : AV) : (pureW PZ (GZ m) XT (tbl []) (itbl []) nAn [] 59 [.bool false] (r, [])) =
(RetIs (AV.str [(102 : UInt8), (97 : UInt8), (108 : UInt8), (115 : UInt8), (101 : UInt8)]) [] (r, [])) := by kernel_rfl
theorem w40 (m : Int) (b : Bool) (r : AV) : (pureW PZ (GZ m) XT (tbl [(59, s59)]) (itbl []) nAn [] 40 [.bool b] (r, [])) =
(∃ (s : List UInt8),
  CallIs
      (some
        (AV.str
 (if b = true then [(116 : UInt8), (114 : UInt8), (117 : UInt8), (101 : UInt8)]
 else [(102 : UInt8), (97 : UInt8), (108 : UInt8), (115 : UInt8), (101 : UInt8)]),
 []))
      (AV.str s) [] ∧
    RetIs (AV.str s) [] (r, [])) := by kernel_rfl
theorem w23 (m k n : Int) (s : List UInt8) (r : AV) : (pureW PZ (GZ m) XT (tbl []) (itbl []) nAn [] 23 [vA k n s] (r, [])) =
(RetIs (AV.str [(110 : UInt8), (117 : UInt8), (108 : UInt8), (108 : UInt8)]) [] (r, [])) := by kernel_rfl
theorem w24 (m k n : Int) (s : List UInt8) (r : AV) : (pureW PZ (GZ m) XT (tbl [(40, s59)]) (itbl []) nAn [] 24 [vA k n s] (r, [])) =
(((n == (1 : Int)) = true →
    ∃ (s : List UInt8), CallIs (some (AV.str [(116 : UInt8), (114 : UInt8), (117 : UInt8), (101 : UInt8)], [])) (AV.str s) [] ∧ RetIs (AV.str s) [] (r, [])) ∧
  ((n == (1 : Int)) = false →
    ∃ (s : List UInt8),
      CallIs (some (AV.str [(102 : UInt8), (97 : UInt8), (108 : UInt8), (115 : UInt8), (101 : UInt8)], [])) (AV.str s) [] ∧ RetIs (AV.str s) [] (r, []))) := by kernel_rfl
theorem w25 (m k n : Int) (s : List UInt8) (r : AV) : (pureW PZ (GZ m) XT (tbl [(35, s35)]) (itbl []) nAn [] 25 [vA k n s] (r, [])) =
(∃ (s : List UInt8), CallIs (tbl [(nat_lit 35, s35)] (nat_lit 35) [AV.int IntKind.i64 n]) (AV.str s) [] ∧ RetIs (AV.str s) [] (r, [])) := by kernel_rfl
theorem w26 (m k n : Int) (s : List UInt8) (r : AV) : (pureW PZ (GZ m) XT (tbl [(15, s55)]) (itbl []) nAn [] 26 [vA k n s] (r, [])) =
(∃ (s : List UInt8), CallIs (tbl [(nat_lit 15, s55)] (nat_lit 15) [AV.int IntKind.i64 n]) (AV.str s) [] ∧ RetIs (AV.str s) [] (r, [])) := by kernel_rfl
theorem w27 (m k n : Int) (s : List UInt8) (r : AV) : (pureW PZ (GZ m) XT (tbl []) (itbl []) nAn [] 27 [vA k n s] (r, [])) =
(nat_lit 1 + s.length ≤ nat_lit 9223372036854775807 ∧
  ([(34 : UInt8)] ++ s).length + nat_lit 1 ≤ nat_lit 9223372036854775807 ∧ RetIs (AV.str ([(34 : UInt8)] ++ s ++ [(34 : UInt8)])) [] (r, [])) := by kernel_rfl
theorem w28 (m k n : Int) (s : List UInt8) (r : AV) : (pureW PZ (GZ m) XT (tbl []) (itbl []) nAn [] 28 [vA k n s] (r, [])) =
(nat_lit 1 + s.length ≤ nat_lit 9223372036854775807 ∧ RetIs (AV.str ([(64 : UInt8)] ++ s)) [] (r, [])) := by kernel_rfl
end Go.Abs

namespace Go.Abs
open Go.Proofs L8
theorem decD_step (n : Nat) : Lib.decDigits n = (if n < 10 then [] else Lib.decDigits (n / 10)) ++ [UInt8.ofNat (48 + n % 10)] := by
  rw [Lib.decDigits]
  by_cases h : n < 10
  · rw [dif_pos h, if_pos h, Nat.mod_eq_of_lt h]; rfl
  · rw [dif_neg h, if_neg h]
theorem itoa_eq (n : Int) : Lib.itoa n = signL n ++ Lib.decDigits n.natAbs := by
  unfold Lib.itoa signL
  by_cases h : n < 0
  · rw [if_pos h, if_pos h]; rfl
  · rw [if_neg h, if_neg h, show n.toNat = n.natAbs by omega]; rfl
theorem nDig20 {N : Nat} (h : N < 10 ^ 20) : (Lib.decDigits N).length ≤ 20 := by
  rw [Lib.decDigits_length]
  apply Classical.byContradiction
  intro hn
  have h2 : ∀ (k M : Nat), k < Lib.nDigits M → 1 ≤ k → 10 ^ k ≤ M := by
    intro k
    induction k with
    | zero => intro M _ h; omega
    | succ k ih =>
      intro M hk _
      by_cases h10 : M < 10
      · rw [Lib.nDigits_small h10] at hk; omega
      · rw [Lib.nDigits_big h10] at hk
        by_cases hk0 : k = 0
        · subst hk0; simp; omega
        · have := ih (M / 10) (by omega) (by omega)
          rw [Nat.pow_succ]; omega
  have := h2 20 N (by omega) (by omega)
  omega
theorem natAbs20 {n : Int} (hn : i64Ok n) : n.natAbs < 10 ^ 20 := by
  obtain ⟨h2, h3⟩ := hn
  have e : (10 : Nat) ^ 20 = 100000000000000000000 := by decide
  omega
theorem lowD_len : ∀ k n, (lowD k n).length = k
  | 0, _ => rfl
  | k + 1, n => by simp [lowD, lowD_len k]
theorem padD_len {N : Nat} (h : N < 10 ^ 20) : 7 ≤ (padD N).length ∧ (padD N).length ≤ 20 := by
  unfold padD restD
  by_cases hlt : N < 10 ^ (7 - 0)
  · rw [if_pos hlt, lowD_len]; omega
  · rw [if_neg hlt]
    refine ⟨?_, nDig20 h⟩
    rw [Lib.decDigits_length]
    have := Lib.lt_pow_nDigits N
    apply Classical.byContradiction
    intro hn
    have h2 : 10 ^ Lib.nDigits N ≤ 10 ^ (7 - 0) := Nat.pow_le_pow_right (by omega) (by omega)
    omega
theorem I55.done {n : Int} {x : X54} (h : I55 n x) (h7 : ¬ x.i < 7) (h0 : x.m = 0) : x.s = pointL (padD n.natAbs) := by
  obtain ⟨a, b, h3, h4, h5⟩ := h.f (by omega)
  have hz : restD x.i x.m.natAbs = [] := by
    unfold restD
    rw [h0, show 7 - x.i = 0 by omega, if_pos (by decide)]; rfl
  rw [hz, List.nil_append] at h5
  unfold pointL
  rw [← h5, h3]
  have hl : (a ++ b).length - 6 = a.length := by simp; omega
  rw [hl]; simp
theorem lowD_rep : ∀ (k N : Nat), Lib.nDigits N ≤ k → lowD k N = List.replicate (k - Lib.nDigits N) 48 ++ Lib.decDigits N
  | 0, N, h => by have := Lib.nDigits_pos N; omega
  | k + 1, N, h => by
    rw [lowD]
    by_cases h10 : N < 10
    · have hz : ∀ k, lowD k 0 = List.replicate k 48 := by
        intro k
        induction k with
        | zero => rfl
        | succ k ih => rw [lowD, Nat.zero_div, ih]; exact (List.replicate_succ' (n := k) (a := (48 : UInt8))).symm
      rw [show N / 10 = 0 by omega, hz, Lib.nDigits_small h10, decD_step, if_pos h10]; simp
    · rw [Lib.nDigits_big h10] at h ⊢
      rw [lowD_rep k (N / 10) (by omega), decD_step N, if_neg h10, show k + 1 - (Lib.nDigits (N / 10) + 1) = k - Lib.nDigits (N / 10) by omega, List.append_assoc]
theorem lt_pow_of {N k : Nat} (h : Lib.nDigits N ≤ k) : N < 10 ^ k := Nat.lt_of_lt_of_le (Lib.lt_pow_nDigits N) (Nat.pow_le_pow_right (by omega) h)
theorem pow_le_of : ∀ (k N : Nat), k < Lib.nDigits N → 1 ≤ k → 10 ^ k ≤ N := by
  intro k
  induction k with
  | zero => intro N _ h; omega
  | succ k ih =>
    intro M hk _
    by_cases h10 : M < 10
    · rw [Lib.nDigits_small h10] at hk; omega
    · rw [Lib.nDigits_big h10] at hk
      by_cases hk0 : k = 0
      · subst hk0; simp; omega
      · have := ih (M / 10) (by omega) (by omega)
        rw [Nat.pow_succ]; omega
theorem I15.done {n : Int} {s : List UInt8} (h : I15 n s) (hl : ¬ s.length ≤ 6) : s = padD n.natAbs := by
  obtain ⟨k, he, hk⟩ := h.e
  have hlen := congrArg List.length he
  rw [List.length_append, List.length_replicate, Lib.decDigits_length] at hlen
  unfold padD restD
  simp only [Nat.sub_zero]
  by_cases h7 : Lib.nDigits n.natAbs ≤ 7
  · rw [if_pos (lt_pow_of h7), lowD_rep _ _ h7, he]
    congr 2
    omega
  · have := pow_le_of 7 n.natAbs (by omega) (by omega)
    rw [if_neg (by omega)]
    have : k = 0 := by omega
    subst this
    rw [he]; rfl
theorem p15 (m n : Int) (hn : i64Ok n) : PureOk PZ (GZ m) XT (tbl [(35, s35)]) (itbl []) (a15 n) [] 15 [.int .i64 n] (.str (decF n), []) := by
  have t1 : tbl [(35, s35)] 35 [.int .i64 n] = some (.str (Lib.itoa n), []) := by rw [tbl_hit]; simp only [s35, hn, if_true]
  constructor
  generalize hr : AV.str (decF n) = r
  rw [w15]
  simp only [t1, callIs_iff, Option.some.injEq, Prod.mk.injEq, AV.str.injEq, List.cons.injEq, valsAre_iff, stIs_iff, true_and, and_true, decide_eq_true_eq, decide_eq_false_iff_not, exists_eq_left']
  have h20 := nDig20 (natAbs20 hn)
  have hlen : ∀ s, I15 n s → s.length ≤ 20 := fun s hs => by
    obtain ⟨k, he, hk⟩ := hs.e
    have hl := congrArg List.length he
    rw [List.length_append, List.length_replicate] at hl
    omega
  have hsg : (signL n).length ≤ 1 := by unfold signL; split <;> simp
  have loop : ∀ x : List UInt8, I15 n x → _ ∧ _ := fun x hx => And.intro
      (show (x.length : Int) ≤ 6 → 1 + x.length ≤ 9223372036854775807 ∧ I15 n ([48] ++ x) ∧ 7 - ([48] ++ x).length < 7 - x.length from fun h6 => by
        have := hlen x hx
        obtain ⟨k, he, hk⟩ := hx.e
        refine ⟨by omega, ⟨k + 1, ?_, .inr (by simp; omega)⟩, by simp; omega⟩
        rw [he, List.replicate_succ]; rfl)
      (show ¬ (x.length : Int) ≤ 6 → x = padD n.natAbs ∧ x.length ≤ 20 ∧ IntKind.i64.wrap ((x.length : Int) - 6) = ((x.length - 6 : Nat) : Int) from fun h6 => ⟨hx.done (by omega), hlen x hx, by
        have := hlen x hx
        rw [wrap64_in (by omega) (by omega)]; omega⟩)
  have fin : ∀ x : List UInt8, x = padD n.natAbs → RetIs (AV.str (signL n ++ List.drop 0 (List.take (x.length - 6) x) ++ [46] ++ List.drop (x.length - 6) (List.take x.length x))) [] (r, []) := fun x hx => ⟨by
    rw [← hr, List.take_length, List.drop_zero, hx]; unfold decF pointL; simp⟩
  have ends : ∀ x : List UInt8, I15 n x → ¬ (x.length : Int) ≤ 6 → 0 ≤ IntKind.i64.wrap ((x.length : Int) - 6) ∧ (0 ≤ (IntKind.i64.wrap ((x.length : Int) - 6)).toNat ∧ (IntKind.i64.wrap ((x.length : Int) - 6)).toNat ≤ x.length) ∧
      (signL n).length + (List.drop 0 (List.take (IntKind.i64.wrap ((x.length : Int) - 6)).toNat x)).length ≤ 9223372036854775807 ∧
      (signL n ++ List.drop 0 (List.take (IntKind.i64.wrap ((x.length : Int) - 6)).toNat x)).length + 1 ≤ 9223372036854775807 ∧
      0 ≤ IntKind.i64.wrap ((x.length : Int) - 6) ∧ ((IntKind.i64.wrap ((x.length : Int) - 6)).toNat ≤ x.length ∧ x.length ≤ x.length) ∧
      (signL n ++ List.drop 0 (List.take (IntKind.i64.wrap ((x.length : Int) - 6)).toNat x) ++ [46]).length + (List.drop (IntKind.i64.wrap ((x.length : Int) - 6)).toNat (List.take x.length x)).length ≤ 9223372036854775807 ∧
      RetIs (AV.str (signL n ++ List.drop 0 (List.take (IntKind.i64.wrap ((x.length : Int) - 6)).toNat x) ++ [46] ++ List.drop (IntKind.i64.wrap ((x.length : Int) - 6)).toNat (List.take x.length x))) [] (r, []) := fun x hx h6 => by
    obtain ⟨h1, h2, h3⟩ := (loop x hx).2 h6
    rw [h3, Int.toNat_natCast]
    refine ⟨by omega, by omega, ?_, ?_, by omega, by omega, ?_, fin x h1⟩
    · simp; omega
    · simp; omega
    · simp; omega
  have hI : I15 n (Lib.decDigits n.natAbs) := ⟨0, by simp, .inl rfl⟩
  refine ⟨fun h => ⟨by omega, ?_, ⟨_, ⟨rfl, ?_⟩, ?_⟩, fun x hx => ⟨(loop x hx).1, ends x hx⟩⟩, fun h => ⟨⟨_, ⟨rfl, ?_⟩, ?_⟩, fun x hx => ⟨(loop x hx).1, ends x hx⟩⟩⟩
  · rw [itoa_eq]; unfold signL; rw [if_pos h]; simp
  · unfold signL; rw [if_pos h]
  · rw [itoa_eq]; unfold signL; rw [if_pos h, List.take_length]; exact hI
  · unfold signL; rw [if_neg h]
  · rw [itoa_eq]; unfold signL; rw [if_neg h]; exact hI
end Go.Abs

namespace Go.Abs
open Go.Proofs L8
theorem sInt_of {X : Shapes} {R : Callee} {C : CCallee} {m : Int} {g : FuncId} {f : Int → AV} (hR : CalleeOk PZ (GZ m) R) (hC : ICalleeOk PZ (GZ m) (lowC C))
    (h : ∀ n, i64Ok n → ∃ A, PureOk PZ (GZ m) X R C A [] g [.int .i64 n] (f n, [])) : SpecOk PZ (GZ m) g (sInt f) := spec_of (X := X) (m := []) mixedZ hR hC fun args r h' => by
  unfold sInt at h'
  split at h'
  · split at h'
    · rename_i hn
      injection h' with h'; subst h'; exact h _ hn
    · cases h'
  · cases h'
theorem sVal'_of {X : Shapes} {R : Callee} {C : CCallee} {m : Int} {g : FuncId} {f : Int → Int → List UInt8 → AV} (hR : CalleeOk PZ (GZ m) R) (hC : ICalleeOk PZ (GZ m) (lowC C))
    (h : ∀ k n s, strOk s → i64Ok n → ∃ A, PureOk PZ (GZ m) X R C A [] g [vA k n s] (f k n s, [])) : SpecOk PZ (GZ m) g (sVal' f) := spec_of (X := X) (m := []) mixedZ hR hC fun args r h' => by
  unfold sVal' at h'
  split at h'
  · split at h'
    · rename_i hs
      injection h' with h'; subst h'; exact h _ _ _ hs.1 hs.2
    · cases h'
  · cases h'
theorem o15 (m : Int) : SpecOk PZ (GZ m) 15 s55 := sInt_of (X := XT) (tbl_cons (o35 m) tbl_nil) itbl_nil fun n hn => ⟨a15 n, p15 m n hn⟩
theorem o59 (m : Int) : SpecOk PZ (GZ m) 59 s59 := spec_of (X := XT) (m := []) mixedZ tbl_nil itbl_nil fun args r h => by
  unfold s59 at h
  split at h
  · rename_i b
    injection h with h; subst h
    cases b with
    | true => exact ⟨nAn, ⟨by rw [w59t]; exact ⟨rfl⟩⟩⟩
    | false => exact ⟨nAn, ⟨by rw [w59f]; exact ⟨rfl⟩⟩⟩
  · cases h
theorem o40 (m : Int) : SpecOk PZ (GZ m) 40 s59 := spec_of (X := XT) (m := []) mixedZ (tbl_cons (o59 m) tbl_nil) itbl_nil fun args r h => by
  unfold s59 at h
  split at h
  · rename_i b
    injection h with h; subst h
    exact ⟨nAn, ⟨by rw [w40]; exact ⟨_, ⟨rfl⟩, ⟨rfl⟩⟩⟩⟩
  · cases h
def s23 : Spec := sVal' fun _ _ _ => .str [110, 117, 108, 108]
def s24 : Spec := sVal' fun _ n _ => .str (if n = 1 then [116, 114, 117, 101] else [102, 97, 108, 115, 101])
def s25 : Spec := sVal' fun _ n _ => .str (Lib.itoa n)
def s26 : Spec := sVal' fun _ n _ => .str (decF n)
def s27 : Spec := sVal' fun _ _ s => .str ([34] ++ s ++ [34])
def s28 : Spec := sVal' fun _ _ s => .str ([64] ++ s)
theorem o23 (m : Int) : SpecOk PZ (GZ m) 23 s23 := sVal'_of (X := XT) tbl_nil itbl_nil fun k n s hs hn => ⟨nAn, ⟨by rw [w23]; exact ⟨rfl⟩⟩⟩
theorem o24 (m : Int) : SpecOk PZ (GZ m) 24 s24 := sVal'_of (X := XT) (tbl_cons (o40 m) tbl_nil) itbl_nil fun k n s hs hn => ⟨nAn, ⟨by
  rw [w24]
  simp only [beq_iff_eq, beq_eq_false_iff_ne]
  exact ⟨fun h => ⟨_, ⟨rfl⟩, ⟨by rw [if_pos h]⟩⟩, fun h => ⟨_, ⟨rfl⟩, ⟨by rw [if_neg h]⟩⟩⟩⟩⟩
theorem o25 (m : Int) : SpecOk PZ (GZ m) 25 s25 := sVal'_of (X := XT) (tbl_cons (o35 m) tbl_nil) itbl_nil fun k n s hs hn => ⟨nAn, ⟨by
  rw [w25, tbl_hit]
  exact ⟨_, ⟨by simp only [s35, hn, if_true]⟩, ⟨rfl⟩⟩⟩⟩
theorem o26 (m : Int) : SpecOk PZ (GZ m) 26 s26 := sVal'_of (X := XT) (tbl_cons (o15 m) tbl_nil) itbl_nil fun k n s hs hn => ⟨nAn, ⟨by
  rw [w26, tbl_hit]
  exact ⟨_, ⟨by simp only [s55, sInt, hn, if_true]⟩, ⟨rfl⟩⟩⟩⟩
theorem o27 (m : Int) : SpecOk PZ (GZ m) 27 s27 := sVal'_of (X := XT) tbl_nil itbl_nil fun k n s hs hn => ⟨nAn, ⟨by
  have h1 : s.length ≤ 1000000 := hs
  rw [w27]; exact ⟨by show 1 + s.length ≤ 9223372036854775807; omega, by show ([34] ++ s).length + 1 ≤ 9223372036854775807; simp; omega, ⟨rfl⟩⟩⟩⟩
theorem o28 (m : Int) : SpecOk PZ (GZ m) 28 s28 := sVal'_of (X := XT) tbl_nil itbl_nil fun k n s hs hn => ⟨nAn, ⟨by
  have h1 : s.length ≤ 1000000 := hs
  rw [w28]; exact ⟨by show 1 + s.length ≤ 9223372036854775807; omega, ⟨rfl⟩⟩⟩⟩
end Go.Abs

namespace Go.Abs
open Go.Proofs Go.RowKit
section
variable {P : Program} {G : Glob} {E : Env} {w w1 : World}
theorem le_below (hb : Below w.heap.size w w1) (hI : ∀ b o, E.I b o → b < w.heap.size) : Env.Le E E w w1 := ⟨fun b o h => ⟨h, hb.cell (p := ⟨b, o, none⟩) (hI b o h)⟩, fun _ _ h => h, fun _ _ _ h => h⟩
theorem spec_calls {f : FuncId} {s : Spec} (hs : SpecOk P G f s) (hg : goodFn P f) {args : List AV} {r : AV} (h : s args = some (r, [])) {vs : Array Value} (hI : ∀ b o, E.I b o → b < w.heap.size) (hG : GlobOk G E w) (hn : vs.size = args.length)
    (hv : ∀ (i : Nat) (c : AV) (v : Value), args[i]? = some c → vs[i]? = some v → Rep E w c v) (hcl : ∀ c ∈ args, c.closed1 = true) : Calls P f vs w fun e w' => ∃ v, e = .returned v ∧ Below w.heap.size w w' ∧ ∃ I', ∀ B K, Rep ⟨I', B, K⟩ w' r v := by
  have hc := hs f args r [] (by simp only [if_true]; exact h) E w vs hI hG hn hv hcl
  rcases hc with ⟨_, hc⟩ | ⟨v, w', hrun, _⟩
  · refine hc.mono fun e w' ⟨v, he, I', _, _, hb, hr⟩ => ?_
    rcases hr with ⟨_, hr⟩ | ⟨n, e', hv', sz, xs, hlv, _⟩
    · exact ⟨v, he, hb, I', hr⟩
    · cases hlv
  · rw [run_callFunc hg] at hrun
    cases hrun
theorem findNow_int (n : Int) : ∀ (l : List MapEntry) (i : Nat), (∀ e ∈ l, ∃ k : Int, e.key = .int .i64 k ∧ k ≠ n) → Instr.findNow (.int .i64) (.int .i64 n) l i = some none
  | [], i, _ => rfl
  | e :: l, i, h => by
    obtain ⟨k, hk, hne⟩ := h e (by simp)
    have : Instr.sameNow (.int .i64) (.int .i64 n) e.key = some false := by
      rw [hk]; simp [Instr.sameNow]; omega
    rw [Instr.findNow, this]
    exact findNow_int n l (i + 1) fun x hx => h x (by simp [hx])
theorem run_mapUpdate_new (mty kt et : TypeId) (r clock : Nat) (es : Array MapEntry) (n : Int) (val : Value) (hm : P.underlying mty = some (.map kt et)) (hk : P.underlying kt = some (.int .i64)) (hb : w.heap[r]? = some (.map es clock))
    (hf : ∀ e ∈ es.toList, ∃ k : Int, e.key = .int .i64 k ∧ k ≠ n) :
    (Instr.mapUpdate mty (.map (some r)) (.int .i64 n) val).run P w = .ok () { w with heap := w.heap.setIfInBounds r (.map (es.push { key := .int .i64 n, val := val, born := clock }) (clock + 1)) } := by
  have hc : (Instr.checkKey false 10000 kt (.int .i64 n)).run P w = .ok () w := MapKept.run_checkKey (k := .int .i64 n) hk (by simp [MapKept.IsKey]) false 9999
  simp [Instr.mapUpdate, run_underlying hm, MapKept.run_getObj_map hb, hc, MapKept.run_findKey hk (findNow_int n es.toList 0 hf), MapKept.run_setObj_map _ hb, Result.andThen]
end
theorem run_lookup_int {P : Program} {w : World} (mty kt et : TypeId) (r clock : Nat) (es : Array MapEntry) (n : Int) (i : Nat) (v : Value) (hm : P.underlying mty = some (.map kt et)) (hk : P.underlying kt = some (.int .i64)) (hb : w.heap[r]? = some (.map es clock))
    (hf : Instr.findNow (.int .i64) (.int .i64 n) es.toList 0 = some (some (i, v))) :
    (Instr.lookup mty (.map (some r)) (.int .i64 n) false).run P w = .ok v w := by
  have hc : (Instr.checkKey es.isEmpty 10000 kt (.int .i64 n)).run P w = .ok () w := MapKept.run_checkKey (k := .int .i64 n) hk (by simp [MapKept.IsKey]) _ 9999
  simp [Instr.lookup, run_underlying hm, MapKept.run_getObj_map hb, hc, MapKept.run_findKey hk hf, Result.andThen]
theorem mk_val {E : Env} {w : World} {k n : Int} {s : ByteArray} : Rep E w (vA k n s.data.toList) (.agg #[.int .i64 k, .int .i64 n, .string s]) := by
  refine .agg _ _ rfl (fun i v h => ?_) fun i c v hc hv => ?_
  · match i, h with
    | 0, h => simp at h; subst h; rfl
    | 1, h => simp at h; subst h; rfl
    | 2, h => simp at h; subst h; rfl
    | i + 3, h => simp at h
  · match i, hc, hv with
    | 0, hc, hv => simp at hc hv; subst hc; subst hv; exact .int _ _
    | 1, hc, hv => simp at hc hv; subst hc; subst hv; exact .int _ _
    | 2, hc, hv => simp at hc hv; subst hc; subst hv; exact .str _ _ rfl
    | i + 3, hc, hv => simp at hc
theorem one_arg {E : Env} {w : World} {a : AV} {v : Value} (h : Rep E w a v) : ∀ (i : Nat) (c : AV) (x : Value), [a][i]? = some c → (#[v])[i]? = some x → Rep E w c x := by
  intro i c x hi hx
  match i, hi, hx with
  | 0, hi, hx => simp at hi hx; subst hi; subst hx; exact h
  | i + 1, hi, hx => simp at hi
theorem agg3 {E : Env} {w : World} {k n : Int} {s : List UInt8} {v : Value} (h : Rep E w (vA k n s) v) : ∃ b : ByteArray, v = .agg #[.int .i64 k, .int .i64 n, .string b] ∧ b.data.toList = s := by
  cases h with | agg _ vs hn h1 hc =>
  obtain ⟨l⟩ := vs
  match l, hn with
  | [a, b, c], _ =>
    obtain rfl := rep_int (hc 0 _ _ rfl rfl)
    obtain rfl := rep_int (hc 1 _ _ rfl rfl)
    obtain ⟨t, rfl, ht⟩ := rep_str (hc 2 _ _ rfl rfl)
    exact ⟨t, rfl, ht⟩
theorem alloc_at (w : World) (o : Obj) : (w.alloc o).heap[w.heap.size]? = some o := Array.getElem?_push_size
/-- the world while the map is being filled -/
structure FM (w : World) (a b r : Nat) (k n : Int) (s : ByteArray) (es : Array MapEntry) (c : Nat) (W : World) : Prop where
  map : W.heap[r]? = some (.map es c)
  ak : W.cell? ⟨a, 0, none⟩ = some (.int .i64 k)
  b0 : W.cell? ⟨b, 0, none⟩ = some (.int .i64 k)
  b1 : W.cell? ⟨b, 1, none⟩ = some (.int .i64 n)
  b2 : W.cell? ⟨b, 2, none⟩ = some (.string s)
  below : Below w.heap.size w W
  hr : w.heap.size ≤ r
  ne1 : a ≠ r
  ne2 : b ≠ r
theorem cell_other {W : World} {r b j : Nat} {o : Obj} (h : b ≠ r) : ({ W with heap := W.heap.setIfInBounds r o } : World).cell? ⟨b, j, none⟩ = W.cell? ⟨b, j, none⟩ := by
  unfold World.cell?
  simp only
  rw [Array.getElem?_setIfInBounds_ne (by omega)]
theorem FM.upd {w : World} {a b r : Nat} {k n : Int} {s : ByteArray} {es : Array MapEntry} {c : Nat} {W : World} (h : FM w a b r k n s es c W) (j : Int) (val : Value) (hf : ∀ e ∈ es.toList, ∃ i : Int, e.key = .int .i64 i ∧ i ≠ j) :
    ∃ W', (Instr.mapUpdate 53 (.map (some r)) (.int .i64 j) val).run PZ W = .ok () W' ∧ FM w a b r k n s (es.push { key := .int .i64 j, val := val, born := c }) (c + 1) W' := by
  refine ⟨_, run_mapUpdate_new 53 3 52 r c es j val (by kernel_rfl) (by kernel_rfl) h.map hf, ?_, ?_, ?_, ?_, ?_, ?_, h.hr, h.ne1, h.ne2⟩
  · have : r < W.heap.size := (Array.getElem?_eq_some_iff.1 h.map).1
    simp [this]
  · rw [cell_other h.ne1]; exact h.ak
  · rw [cell_other h.ne2]; exact h.b0
  · rw [cell_other h.ne2]; exact h.b1
  · rw [cell_other h.ne2]; exact h.b2
  · exact ⟨h.below.os, h.below.tape, h.below.output, by simpa using h.below.size, fun q hq => by
      simp only
      rw [Array.getElem?_setIfInBounds_ne (by have := h.hr; omega)]
      exact h.below.block q hq⟩
set_option maxHeartbeats 4000000 in
set_option maxRecDepth 100000 in
theorem fmt_walk (k n : Int) (s : ByteArray) (m : Int) {E : Env} (w : World) (hs : strOk s.data.toList) (hn : i64Ok n) (hI : ∀ b o, E.I b o → b < w.heap.size) (hG : GlobOk (GZ m) E w) :
    Calls PZ 10 #[.agg #[.int .i64 k, .int .i64 n, .string s]] w fun e w' => (∃ b : ByteArray, e = .returned (.string b) ∧ b.data.toList = fmtL k n s.data.toList) ∧ Below w.heap.size w w' := by
  have hmm := @run_makeMap PZ
  have hmf : ∀ (fn : Fn) (first cap : Array Value) (w : World), (Instr.makeFunc fn first cap).run PZ w = .ok (.func fn first cap) w := fun _ _ _ _ => rfl
  go_enter Tryd.func10, Tryd.ntmps10
  go_wp2_with fail
  have hb0 : Below w.heap.size w (w.alloc (Obj.cells #[Value.int IntKind.i64 k, Value.int IntKind.i64 n, Value.string s] 23)) := (Below.refl w.heap.size w).alloc (Nat.le_refl _) _
  refine (spec_calls (E := E) (o9 m) (goodZ (by kernel_rfl)) (s12_at (k := k) (n := n) hs) (fun b o h => by have := hI b o h; simp [go_sem]; omega) (hG.le (le_below hb0 hI)) rfl (one_arg mk_val) (by simp [AV.closed1, AV.closed])).mono ?_
  rintro e w1 ⟨v, rfl, hb1, I', hr⟩
  obtain rfl := rep_int (hr (fun _ => none) (fun _ _ _ => False))
  have hsz : (w.alloc (Obj.cells #[Value.int IntKind.i64 k, Value.int IntKind.i64 n, Value.string s] 23)).heap.size = w.heap.size + 1 := by simp [go_sem]
  rw [hsz] at hb1
  have hc0 : ∀ j, w1.cell? ⟨w.heap.size, j, none⟩ = (#[Value.int IntKind.i64 k, Value.int IntKind.i64 n, Value.string s])[j]? := fun j => by
    rw [hb1.cell (p := ⟨w.heap.size, j, none⟩) (by show w.heap.size < _; omega)]; simp [go_sem]
  have h0 := hc0 0; have h1 := hc0 1; have h2 := hc0 2
  simp at h0 h1 h2
  have hb2 := hb0.trans (hb1.mono (by omega))
  have hle : w.heap.size + 1 ≤ w1.heap.size := by have := hb1.size; omega
  have hGw := hG.le (le_below hb2 hI)
  clear hb0 hb1 hc0 hr hsz
  generalize hck : checkI k n s.data.toList = ck
  go_wp2_with fail
  · have hf : fmtL k n s.data.toList = [] := by
      unfold fmtL validB
      rw [if_pos]
      rw [hck]; simp only [decide_eq_false_iff_not]; simpa using ‹(ck != 0) = true›
    go_ret
    exact ⟨⟨_, rfl, by rw [hf]⟩, hb2⟩
  · have hck0 : ck = 0 := by simpa using ‹(ck != 0) = false›
    have F0 : FM w w.heap.size w1.heap.size (w1.heap.size + 1) k n s #[] 0 ((w1.alloc (Obj.cells #[Value.int IntKind.i64 k, Value.int IntKind.i64 n, Value.string s] 51)).alloc (Obj.map #[] 0)) := by
      refine ⟨?_, ?_, by simp [go_sem], by simp [go_sem], by simp [go_sem], ?_, by omega, by omega, by omega⟩
      · have := alloc_at (w1.alloc (Obj.cells #[Value.int IntKind.i64 k, Value.int IntKind.i64 n, Value.string s] 51)) (Obj.map #[] 0)
        rw [show (w1.alloc (Obj.cells #[Value.int IntKind.i64 k, Value.int IntKind.i64 n, Value.string s] 51)).heap.size = w1.heap.size + 1 by simp [go_sem]] at this
        exact this
      · have hb3 : Below (w.heap.size + 1) w1 ((w1.alloc (Obj.cells #[Value.int IntKind.i64 k, Value.int IntKind.i64 n, Value.string s] 51)).alloc (Obj.map #[] 0)) := ((Below.refl _ w1).alloc hle _).alloc (by simp [go_sem]; omega) _
        rw [hb3.cell (p := ⟨w.heap.size, 0, none⟩) (by show w.heap.size < _; omega)]; exact h0
      · exact (hb2.alloc (by omega) _).alloc (by simp [go_sem]; omega) _
    generalize ((w1.alloc (Obj.cells #[Value.int IntKind.i64 k, Value.int IntKind.i64 n, Value.string s] 51)).alloc (Obj.map #[] 0)) = W0 at *
    clear h0 h1 h2 hmm
    generalize hv : Value.agg #[Value.int IntKind.i64 k, Value.int IntKind.i64 n, Value.string s] = V at *
    obtain ⟨W1, r1, F1⟩ := F0.upd 0 (.func (.func 23) #[V] #[]) (by simp)
    rw [r1]
    clear r1
    have b0 := F1.b0; have b1 := F1.b1; have b2 := F1.b2
    go_wp2_with fail
    clear b0 b1 b2 F0
    obtain ⟨W2, r2, F2⟩ := F1.upd 1 (.func (.func 24) #[V] #[]) (by simp)
    rw [r2]
    clear r2
    have b0 := F2.b0; have b1 := F2.b1; have b2 := F2.b2
    go_wp2_with fail
    clear b0 b1 b2 F1
    obtain ⟨W3, r3, F3⟩ := F2.upd 2 (.func (.func 25) #[V] #[]) (by simp)
    rw [r3]
    clear r3
    have b0 := F3.b0; have b1 := F3.b1; have b2 := F3.b2
    go_wp2_with fail
    clear b0 b1 b2 F2
    obtain ⟨W4, r4, F4⟩ := F3.upd 3 (.func (.func 26) #[V] #[]) (by simp)
    rw [r4]
    clear r4
    have b0 := F4.b0; have b1 := F4.b1; have b2 := F4.b2
    go_wp2_with fail
    clear b0 b1 b2 F3
    obtain ⟨W5, r5, F5⟩ := F4.upd 4 (.func (.func 27) #[V] #[]) (by simp)
    rw [r5]
    clear r5
    have b0 := F5.b0; have b1 := F5.b1; have b2 := F5.b2
    go_wp2_with fail
    clear b0 b1 b2 F4
    obtain ⟨W6, r6, F6⟩ := F5.upd 5 (.func (.func 28) #[V] #[]) (by simp)
    rw [r6]
    clear r6
    have b0 := F6.b0; have b1 := F6.b1; have b2 := F6.b2
    have ak := F6.ak
    go_wp2_with fail
    have hkk : k = 0 ∨ k = 1 ∨ k = 2 ∨ k = 3 ∨ k = 4 ∨ k = 5 := by
      rw [hck0] at hck
      unfold checkI at hck
      split at hck
      · cases hck
      · rename_i hf
        unfold fieldsB at hf
        by_cases h0 : k = 0
        · omega
        · by_cases h1 : k = 1
          · omega
          · by_cases h2 : k = 2 ∨ k = 3
            · omega
            · by_cases h3 : k = 4 ∨ k = 5
              · omega
              · rw [if_neg h0, if_neg h1, if_neg h2, if_neg h3] at hf; simp at hf
    have hvd : validB k n s.data.toList = true := by unfold validB; rw [hck, hck0]; rfl
    have hbW := F6.below
    have hGW := hG.le (le_below hbW hI)
    have hIW : ∀ b o, E.I b o → b < W6.heap.size := fun b o h => by have := hI b o h; have := hbW.size; omega
    have hmap := F6.map
    clear F6 b0 b1 b2 F5 hGw hle hb2 hck
    subst hv
    rcases hkk with rfl | rfl | rfl | rfl | rfl | rfl
    · rw [run_lookup_int 53 3 52 _ _ _ 0 0 (.func (.func 23) #[.agg #[.int .i64 0, .int .i64 n, .string s]] #[]) (by kernel_rfl) (by kernel_rfl) hmap rfl]
      go_wp2_with fail
      refine (spec_calls (E := E) (o23 m) (goodZ (by kernel_rfl)) (by unfold s23 sVal'; simp only [hs, hn, and_self, if_true]; rfl) hIW hGW rfl (one_arg mk_val) (by simp [AV.closed1, AV.closed])).mono ?_
      rintro e w7 ⟨v, rfl, hb7, I'', hr7⟩
      obtain ⟨t, rfl, ht⟩ := rep_str (hr7 (fun _ => none) (fun _ _ _ => False))
      have hb8 := hbW.trans (hb7.mono hbW.size)
      clear hmap hbW hGW hIW hr7 hb7 ak hG hI
      go_wp2_with fail
      go_ret
      refine ⟨⟨t, rfl, ?_⟩, hb8⟩
      rw [ht]; unfold fmtL; rw [hvd]; rfl
    · rw [run_lookup_int 53 3 52 _ _ _ 1 1 (.func (.func 24) #[.agg #[.int .i64 1, .int .i64 n, .string s]] #[]) (by kernel_rfl) (by kernel_rfl) hmap rfl]
      go_wp2_with fail
      refine (spec_calls (E := E) (o24 m) (goodZ (by kernel_rfl)) (by unfold s24 sVal'; simp only [hs, hn, and_self, if_true]; rfl) hIW hGW rfl (one_arg mk_val) (by simp [AV.closed1, AV.closed])).mono ?_
      rintro e w7 ⟨v, rfl, hb7, I'', hr7⟩
      obtain ⟨t, rfl, ht⟩ := rep_str (hr7 (fun _ => none) (fun _ _ _ => False))
      have hb8 := hbW.trans (hb7.mono hbW.size)
      clear hmap hbW hGW hIW hr7 hb7 ak hG hI
      go_wp2_with fail
      go_ret
      refine ⟨⟨t, rfl, ?_⟩, hb8⟩
      rw [ht]; unfold fmtL; rw [hvd]; rfl
    · rw [run_lookup_int 53 3 52 _ _ _ 2 2 (.func (.func 25) #[.agg #[.int .i64 2, .int .i64 n, .string s]] #[]) (by kernel_rfl) (by kernel_rfl) hmap rfl]
      go_wp2_with fail
      refine (spec_calls (E := E) (o25 m) (goodZ (by kernel_rfl)) (by unfold s25 sVal'; simp only [hs, hn, and_self, if_true]; rfl) hIW hGW rfl (one_arg mk_val) (by simp [AV.closed1, AV.closed])).mono ?_
      rintro e w7 ⟨v, rfl, hb7, I'', hr7⟩
      obtain ⟨t, rfl, ht⟩ := rep_str (hr7 (fun _ => none) (fun _ _ _ => False))
      have hb8 := hbW.trans (hb7.mono hbW.size)
      clear hmap hbW hGW hIW hr7 hb7 ak hG hI
      go_wp2_with fail
      go_ret
      refine ⟨⟨t, rfl, ?_⟩, hb8⟩
      rw [ht]; unfold fmtL; rw [hvd]; rfl
    · rw [run_lookup_int 53 3 52 _ _ _ 3 3 (.func (.func 26) #[.agg #[.int .i64 3, .int .i64 n, .string s]] #[]) (by kernel_rfl) (by kernel_rfl) hmap rfl]
      go_wp2_with fail
      refine (spec_calls (E := E) (o26 m) (goodZ (by kernel_rfl)) (by unfold s26 sVal'; simp only [hs, hn, and_self, if_true]; rfl) hIW hGW rfl (one_arg mk_val) (by simp [AV.closed1, AV.closed])).mono ?_
      rintro e w7 ⟨v, rfl, hb7, I'', hr7⟩
      obtain ⟨t, rfl, ht⟩ := rep_str (hr7 (fun _ => none) (fun _ _ _ => False))
      have hb8 := hbW.trans (hb7.mono hbW.size)
      clear hmap hbW hGW hIW hr7 hb7 ak hG hI
      go_wp2_with fail
      go_ret
      refine ⟨⟨t, rfl, ?_⟩, hb8⟩
      rw [ht]; unfold fmtL; rw [hvd]; rfl
    · rw [run_lookup_int 53 3 52 _ _ _ 4 4 (.func (.func 27) #[.agg #[.int .i64 4, .int .i64 n, .string s]] #[]) (by kernel_rfl) (by kernel_rfl) hmap rfl]
      go_wp2_with fail
      refine (spec_calls (E := E) (o27 m) (goodZ (by kernel_rfl)) (by unfold s27 sVal'; simp only [hs, hn, and_self, if_true]; rfl) hIW hGW rfl (one_arg mk_val) (by simp [AV.closed1, AV.closed])).mono ?_
      rintro e w7 ⟨v, rfl, hb7, I'', hr7⟩
      obtain ⟨t, rfl, ht⟩ := rep_str (hr7 (fun _ => none) (fun _ _ _ => False))
      have hb8 := hbW.trans (hb7.mono hbW.size)
      clear hmap hbW hGW hIW hr7 hb7 ak hG hI
      go_wp2_with fail
      go_ret
      refine ⟨⟨t, rfl, ?_⟩, hb8⟩
      rw [ht]; unfold fmtL; rw [hvd]; rfl
    · rw [run_lookup_int 53 3 52 _ _ _ 5 5 (.func (.func 28) #[.agg #[.int .i64 5, .int .i64 n, .string s]] #[]) (by kernel_rfl) (by kernel_rfl) hmap rfl]
      go_wp2_with fail
      refine (spec_calls (E := E) (o28 m) (goodZ (by kernel_rfl)) (by unfold s28 sVal'; simp only [hs, hn, and_self, if_true]; rfl) hIW hGW rfl (one_arg mk_val) (by simp [AV.closed1, AV.closed])).mono ?_
      rintro e w7 ⟨v, rfl, hb7, I'', hr7⟩
      obtain ⟨t, rfl, ht⟩ := rep_str (hr7 (fun _ => none) (fun _ _ _ => False))
      have hb8 := hbW.trans (hb7.mono hbW.size)
      clear hmap hbW hGW hIW hr7 hb7 ak hG hI
      go_wp2_with fail
      go_ret
      refine ⟨⟨t, rfl, ?_⟩, hb8⟩
      rw [ht]; unfold fmtL; rw [hvd]; rfl
theorem o10 (m : Int) : SpecOk PZ (GZ m) 10 s10 := by
  intro g args r lv h E w vs hI hG hn' hv hcl
  simp only at h
  split at h
  case isFalse => cases h
  case isTrue e =>
  subst e
  unfold s10 sVal' at h
  split at h
  case h_2 => cases h
  case h_1 k n s =>
  split at h
  case isFalse => cases h
  case isTrue hl =>
  simp only [Option.some.injEq, Prod.mk.injEq] at h
  obtain ⟨rfl, rfl⟩ := h
  obtain ⟨a, rfl⟩ := vs_one hn'
  obtain ⟨b, rfl, hb⟩ := agg3 (hv 0 _ _ rfl rfl)
  subst hb
  refine .inl ⟨goodZ (by kernel_rfl), (fmt_walk k n b m w hl.1 hl.2 hI hG).mono fun e w' ⟨⟨t, he, ht⟩, hbw⟩ => ⟨_, he, ?_⟩⟩
  exact res_below hbw fun B K => by rw [← ht]; exact .str _ _ rfl
end Go.Abs

namespace Go.Abs
open Go.Proofs L8
def hasPfx (s p : List UInt8) : Bool := decide (s.take p.length = p)
def trL (c : UInt8) (s : List UInt8) : List UInt8 := s.dropWhile (· == c)
def trR (c : UInt8) (s : List UInt8) : List UInt8 := (s.reverse.dropWhile (· == c)).reverse
def s30 : Spec := fun args => match args with
  | [.str s, .str p] => some (.bool (hasPfx s p), [])
  | _ => none
def sTrim (f : UInt8 → List UInt8 → List UInt8) : Spec := fun args => match args with
  | [.str s, .int .u8 c] => if strOk s ∧ 0 ≤ c ∧ c < 256 then some (.str (f (UInt8.ofNat c.toNat) s), []) else none
  | _ => none
def s42 : Spec := sTrim trL
def s43 : Spec := sTrim trR
def s31 : Spec := fun args => match args with
  | [.str s, .str [34]] => if strOk s then some (.str (trL 34 (trR 34 s)), []) else none
  | _ => none
def a42 (s : List UInt8) (c : UInt8) : Anns := ⟨fun q => if q = 1 then some { α := Nat, slots := [0, 1], nb := 0, vals := fun k => [.str (s.drop k), .int .u8 c.toNat], sS := fun _ => ⟨[], []⟩, I := fun k => k ≤ s.length ∧ trL c (s.drop k) = trL c s, μ := fun k => s.length - k } else none, nA⟩
def a43 (s : List UInt8) (c : UInt8) : Anns := ⟨fun q => if q = 1 then some { α := Nat, slots := [0, 1], nb := 0, vals := fun k => [.str (s.take k), .int .u8 c.toNat], sS := fun _ => ⟨[], []⟩, I := fun k => k ≤ s.length ∧ trR c (s.take k) = trR c s, μ := fun k => k } else none, nA⟩
def nullV : V3 := ⟨0, 0, []⟩
abbrev trueT : List UInt8 := [116, 114, 117, 101]
abbrev falseT : List UInt8 := [102, 97, 108, 115, 101]
abbrev nullT : List UInt8 := [110, 117, 108, 108]
/-- what the program guesses -/
def gP (s : List UInt8) : V3 :=
  if s = nullT then nullV else if s = trueT ∨ s = falseT then ⟨1, if s = trueT then 1 else 0, []⟩
  else if hasPfx s [64] = true then ⟨5, 0, s.drop 1⟩ else if hasPfx s [34] = true then ⟨4, 0, trL 34 (trR 34 s)⟩
  else if Lib.contains s [46] = true then ⟨3, (decP s).1, []⟩ else if atoiB s = true then ⟨2, atoiV s, []⟩ else nullV
def endP (g : V3) (s : List UInt8) : V3 × Int := if s ≠ [] ∧ fmtL g.k g.n g.s = s then (g, 0) else (nullV, 3)
def parseV (s : List UInt8) : V3 × Int := endP (gP s) s
def aV (x : V3) : AV := vA x.k x.n x.s
def s13 : Spec := fun args => match args with
  | [.str s] => if strOk s then some (.tup [aV (parseV s).1, .int .i64 (parseV s).2], []) else none
  | _ => none
def b0 : List AV := [.int .i64 0, .int .i64 0, .str []]
def a13 (s : List UInt8) : Anns := ⟨fun q => match q with
  | 1000017 => some { α := V3, slots := [0, 2, 3], nb := 1, vals := fun _ => [.str s, .ptr 0 0, .int .i64 0], sS := fun x => ⟨[some (vC x)], []⟩, I := fun x => x = gP s, μ := fun _ => 0 }
  | _ => none, nA⟩
end Go.Abs

namespace Go.Abs
open Go.Proofs L8
theorem w41 (m : Int) (s p : List UInt8) (r : AV) : (pureW PZ (GZ m) XT (tbl []) (itbl []) nAn [] 41 [.str s, .str p] (r, [])) =
((decide ((↑s.length : Int) ≥ (↑p.length : Int)) = true →
    (0 : Int) ≤ (↑p.length : Int) ∧
      (nat_lit 0 ≤ (↑p.length : Int).toNat ∧ (↑p.length : Int).toNat ≤ s.length) ∧
        ((List.drop (nat_lit 0) (List.take (↑p.length : Int).toNat s) == p) = true → RetIs (AV.bool true) [] (r, [])) ∧
 ((List.drop (nat_lit 0) (List.take (↑p.length : Int).toNat s) == p) = false → RetIs (AV.bool false) [] (r, []))) ∧
  (decide ((↑s.length : Int) ≥ (↑p.length : Int)) = false → RetIs (AV.bool false) [] (r, []))) := by kernel_rfl
theorem w30 (m : Int) (s p : List UInt8) (r : AV) : (pureW PZ (GZ m) XT (tbl [(41, s30)]) (itbl []) nAn [] 30 [.str s, .str p] (r, [])) =
(∃ (b : Bool),
  CallIs (some (AV.bool (hasPfx s p), [])) (AV.bool b) [] ∧ (b = true → RetIs (AV.bool true) [] (r, [])) ∧ (b = false → RetIs (AV.bool false) [] (r, []))) := by kernel_rfl
theorem w42 (m : Int) (s : List UInt8) (c : UInt8) (r : AV) : (pureW PZ (GZ m) XT (tbl []) (itbl []) (a42 s c) [] 42 [.str s, .int .u8 c.toNat] (r, [])) =
((∃ (y : Nat),
    ValsAre [AV.str s, AV.int IntKind.u8 (↑c.toNat : Int)] [AV.str (List.drop y s), AV.int IntKind.u8 (↑c.toNat : Int)] ∧
      StIs { boxes := [], live := [] } { boxes := [], live := [] } ∧ (y ≤ s.length ∧ trL c (List.drop y s) = trL c s) ∧ True) ∧
  ∀ (x : Nat),
    x ≤ s.length ∧ trL c (List.drop x s) = trL c s →
      (decide ((↑(List.drop x s).length : Int) > (0 : Int)) = true →
 (0 : Int) ≤ (0 : Int) ∧
 ∃ (c_1 : UInt8),
 (List.drop x s)[nat_lit 0]? = some c_1 ∧
 (((↑c_1.toNat : Int) == (↑c.toNat : Int)) = true →
 (0 : Int) ≤ (1 : Int) ∧
 (nat_lit 1 ≤ (List.drop x s).length ∧ (List.drop x s).length ≤ (List.drop x s).length) ∧
 ∃ (y : Nat),
 ValsAre [AV.str (List.drop (nat_lit 1) (List.take (List.drop x s).length (List.drop x s))), AV.int IntKind.u8 (↑c.toNat : Int)]
 [AV.str (List.drop y s), AV.int IntKind.u8 (↑c.toNat : Int)] ∧
 StIs { boxes := [], live := [] } { boxes := [], live := [] } ∧
 (y ≤ s.length ∧ trL c (List.drop y s) = trL c s) ∧ s.length - y < s.length - x) ∧
 (((↑c_1.toNat : Int) == (↑c.toNat : Int)) = false → RetIs (AV.str (List.drop x s)) [] (r, []))) ∧
        (decide ((↑(List.drop x s).length : Int) > (0 : Int)) = false → RetIs (AV.str (List.drop x s)) [] (r, []))) := by kernel_rfl
theorem w43 (m : Int) (s : List UInt8) (c : UInt8) (r : AV) : (pureW PZ (GZ m) XT (tbl []) (itbl []) (a43 s c) [] 43 [.str s, .int .u8 c.toNat] (r, [])) =
((∃ (y : Nat),
    ValsAre [AV.str s, AV.int IntKind.u8 (↑c.toNat : Int)] [AV.str (List.take y s), AV.int IntKind.u8 (↑c.toNat : Int)] ∧
      StIs { boxes := [], live := [] } { boxes := [], live := [] } ∧ (y ≤ s.length ∧ trR c (List.take y s) = trR c s) ∧ True) ∧
  ∀ (x : Nat),
    x ≤ s.length ∧ trR c (List.take x s) = trR c s →
      (decide ((↑(List.take x s).length : Int) > (0 : Int)) = true →
 (0 : Int) ≤ IntKind.i64.wrap ((↑(List.take x s).length : Int) - (1 : Int)) ∧
 ∃ (c_1 : UInt8),
 (List.take x s)[(IntKind.i64.wrap ((↑(List.take x s).length : Int) - (1 : Int))).toNat]? = some c_1 ∧
 (((↑c_1.toNat : Int) == (↑c.toNat : Int)) = true →
 (0 : Int) ≤ IntKind.i64.wrap ((↑(List.take x s).length : Int) - (1 : Int)) ∧
 (nat_lit 0 ≤ (IntKind.i64.wrap ((↑(List.take x s).length : Int) - (1 : Int))).toNat ∧
 (IntKind.i64.wrap ((↑(List.take x s).length : Int) - (1 : Int))).toNat ≤ (List.take x s).length) ∧
 ∃ (y : Nat),
 ValsAre
 [AV.str
 (List.drop (nat_lit 0) (List.take (IntKind.i64.wrap ((↑(List.take x s).length : Int) - (1 : Int))).toNat (List.take x s))),
 AV.int IntKind.u8 (↑c.toNat : Int)]
 [AV.str (List.take y s), AV.int IntKind.u8 (↑c.toNat : Int)] ∧
 StIs { boxes := [], live := [] } { boxes := [], live := [] } ∧ (y ≤ s.length ∧ trR c (List.take y s) = trR c s) ∧ y < x) ∧
 (((↑c_1.toNat : Int) == (↑c.toNat : Int)) = false → RetIs (AV.str (List.take x s)) [] (r, []))) ∧
        (decide ((↑(List.take x s).length : Int) > (0 : Int)) = false → RetIs (AV.str (List.take x s)) [] (r, []))) := by kernel_rfl
theorem w31 (m : Int) (s : List UInt8) (r : AV) : (pureW PZ (GZ m) XT (tbl [(42, s42), (43, s43)]) (itbl []) nAn [] 31 [.str s, .str [34]] (r, [])) =
(((s == []) = true → RetIs (AV.str s) [] (r, [])) ∧
  ((s == []) = false →
    (false = true → RetIs (AV.str s) [] (r, [])) ∧
      (false = false →
        (true = true →
 (0 : Int) ≤ (0 : Int) ∧
 ∃ (c : UInt8),
 some (34 : UInt8) = some c ∧
 (decide ((↑c.toNat : Int) < (128 : Int)) = true →
 (0 : Int) ≤ (0 : Int) ∧
 ∃ (c : UInt8),
 some (34 : UInt8) = some c ∧
 ∃ (s_1 : List UInt8),
 CallIs (tbl [(nat_lit 42, s42), (nat_lit 43, s43)] (nat_lit 43) [AV.str s, AV.int IntKind.u8 (↑c.toNat : Int)]) (AV.str s_1) [] ∧
 (0 : Int) ≤ (0 : Int) ∧
 ∃ (c : UInt8),
 some (34 : UInt8) = some c ∧
 ∃ (s : List UInt8),
 CallIs (tbl [(nat_lit 42, s42), (nat_lit 43, s43)] (nat_lit 42) [AV.str s_1, AV.int IntKind.u8 (↑c.toNat : Int)])
 (AV.str s) [] ∧
 RetIs (AV.str s) [] (r, [])) ∧
 (decide ((↑c.toNat : Int) < (128 : Int)) = false → False)) ∧
 (true = false → False)))) := by kernel_rfl
theorem w13 (m : Int) (s : List UInt8) (r : AV) : (pureW PZ (GZ m) XT (tbl [(30, s30), (31, s31), (32, sContains), (12, s12), (33, s33), (10, s10)]) (itbl []) (a13 s) [] 13 [.str s] (r, [])) =
((((s == [(110 : UInt8), (117 : UInt8), (108 : UInt8), (108 : UInt8)]) = true →
      ∃ (y : V3),
        ValsAre [AV.str s, AV.ptr (nat_lit 0) (nat_lit 0), AV.int IntKind.i64 (0 : Int)]
 [AV.str s, AV.ptr (nat_lit 0) (nat_lit 0), AV.int IntKind.i64 (0 : Int)] ∧
 StIs { boxes := [some [AV.int IntKind.i64 (0 : Int), AV.int IntKind.i64 (0 : Int), AV.str []]], live := [] }
 { boxes := [some [AV.int IntKind.i64 y.k, AV.int IntKind.i64 y.n, AV.str y.s]], live := [] } ∧
 y = gP s ∧ True) ∧
    ((s == [(110 : UInt8), (117 : UInt8), (108 : UInt8), (108 : UInt8)]) = false →
      ((s == [(116 : UInt8), (114 : UInt8), (117 : UInt8), (101 : UInt8)]) = true →
 ((s == [(116 : UInt8), (114 : UInt8), (117 : UInt8), (101 : UInt8)]) = true →
 ∃ (y : V3),
 ValsAre [AV.str s, AV.ptr (nat_lit 0) (nat_lit 0), AV.int IntKind.i64 (0 : Int)]
 [AV.str s, AV.ptr (nat_lit 0) (nat_lit 0), AV.int IntKind.i64 (0 : Int)] ∧
 StIs { boxes := [some [AV.int IntKind.i64 (1 : Int), AV.int IntKind.i64 (1 : Int), AV.str []]], live := [] }
 { boxes := [some [AV.int IntKind.i64 y.k, AV.int IntKind.i64 y.n, AV.str y.s]], live := [] } ∧
 y = gP s ∧ True) ∧
 ((s == [(116 : UInt8), (114 : UInt8), (117 : UInt8), (101 : UInt8)]) = false →
 ∃ (y : V3),
 ValsAre [AV.str s, AV.ptr (nat_lit 0) (nat_lit 0), AV.int IntKind.i64 (0 : Int)]
 [AV.str s, AV.ptr (nat_lit 0) (nat_lit 0), AV.int IntKind.i64 (0 : Int)] ∧
 StIs { boxes := [some [AV.int IntKind.i64 (1 : Int), AV.int IntKind.i64 (0 : Int), AV.str []]], live := [] }
 { boxes := [some [AV.int IntKind.i64 y.k, AV.int IntKind.i64 y.n, AV.str y.s]], live := [] } ∧
 y = gP s ∧ True)) ∧
        ((s == [(116 : UInt8), (114 : UInt8), (117 : UInt8), (101 : UInt8)]) = false →
 ((s == [(102 : UInt8), (97 : UInt8), (108 : UInt8), (115 : UInt8), (101 : UInt8)]) = true →
 ((s == [(116 : UInt8), (114 : UInt8), (117 : UInt8), (101 : UInt8)]) = true →
 ∃ (y : V3),
 ValsAre [AV.str s, AV.ptr (nat_lit 0) (nat_lit 0), AV.int IntKind.i64 (0 : Int)]
 [AV.str s, AV.ptr (nat_lit 0) (nat_lit 0), AV.int IntKind.i64 (0 : Int)] ∧
 StIs { boxes := [some [AV.int IntKind.i64 (1 : Int), AV.int IntKind.i64 (1 : Int), AV.str []]], live := [] }
 { boxes := [some [AV.int IntKind.i64 y.k, AV.int IntKind.i64 y.n, AV.str y.s]], live := [] } ∧
 y = gP s ∧ True) ∧
 ((s == [(116 : UInt8), (114 : UInt8), (117 : UInt8), (101 : UInt8)]) = false →
 ∃ (y : V3),
 ValsAre [AV.str s, AV.ptr (nat_lit 0) (nat_lit 0), AV.int IntKind.i64 (0 : Int)]
 [AV.str s, AV.ptr (nat_lit 0) (nat_lit 0), AV.int IntKind.i64 (0 : Int)] ∧
 StIs { boxes := [some [AV.int IntKind.i64 (1 : Int), AV.int IntKind.i64 (0 : Int), AV.str []]], live := [] }
 { boxes := [some [AV.int IntKind.i64 y.k, AV.int IntKind.i64 y.n, AV.str y.s]], live := [] } ∧
 y = gP s ∧ True)) ∧
 ((s == [(102 : UInt8), (97 : UInt8), (108 : UInt8), (115 : UInt8), (101 : UInt8)]) = false →
 ∃ (b : Bool),
 CallIs (some (AV.bool (hasPfx s [(64 : UInt8)]), [])) (AV.bool b) [] ∧
 (b = true →
 (0 : Int) ≤ (1 : Int) ∧
 (nat_lit 1 ≤ s.length ∧ s.length ≤ s.length) ∧
 ∃ (y : V3),
 ValsAre [AV.str s, AV.ptr (nat_lit 0) (nat_lit 0), AV.int IntKind.i64 (0 : Int)]
 [AV.str s, AV.ptr (nat_lit 0) (nat_lit 0), AV.int IntKind.i64 (0 : Int)] ∧
 StIs
 { boxes := [some [AV.int IntKind.i64 (5 : Int), AV.int IntKind.i64 (0 : Int), AV.str (List.drop (nat_lit 1) (List.take s.length s))]], live := [] }
 { boxes := [some [AV.int IntKind.i64 y.k, AV.int IntKind.i64 y.n, AV.str y.s]], live := [] } ∧
 y = gP s ∧ True) ∧
 (b = false →
 ∃ (b : Bool),
 CallIs (some (AV.bool (hasPfx s [(34 : UInt8)]), [])) (AV.bool b) [] ∧
 (b = true →
 ∃ (s_1 : List UInt8),
 CallIs
 (tbl
 [(nat_lit 30, s30), (nat_lit 31, s31), (nat_lit 32, sContains), (nat_lit 12, s12), (nat_lit 33, s33), (nat_lit 10, s10)]
 (nat_lit 31) [AV.str s, AV.str [(34 : UInt8)]])
 (AV.str s_1) [] ∧
 ∃ (y : V3),
 ValsAre [AV.str s, AV.ptr (nat_lit 0) (nat_lit 0), AV.int IntKind.i64 (0 : Int)]
 [AV.str s, AV.ptr (nat_lit 0) (nat_lit 0), AV.int IntKind.i64 (0 : Int)] ∧
 StIs { boxes := [some [AV.int IntKind.i64 (4 : Int), AV.int IntKind.i64 (0 : Int), AV.str s_1]], live := [] }
 { boxes := [some [AV.int IntKind.i64 y.k, AV.int IntKind.i64 y.n, AV.str y.s]], live := [] } ∧
 y = gP s ∧ True) ∧
 (b = false →
 ∃ (b : Bool),
 CallIs
 (tbl
 [(nat_lit 30, s30), (nat_lit 31, s31), (nat_lit 32, sContains), (nat_lit 12, s12), (nat_lit 33, s33), (nat_lit 10, s10)]
 (nat_lit 32) [AV.str s, AV.str [(46 : UInt8)]])
 (AV.bool b) [] ∧
 (b = true →
 ∃ (n : Int),
 ∃ (n_1 : Int),
 CallIs
 (tbl
 [(nat_lit 30, s30), (nat_lit 31, s31), (nat_lit 32, sContains), (nat_lit 12, s12), (nat_lit 33, s33),
 (nat_lit 10, s10)]
 (nat_lit 12) [AV.str s])
 (AV.tup [AV.int IntKind.i64 n, AV.int IntKind.i64 n_1]) [] ∧
 ∃ (y : V3),
 ValsAre [AV.str s, AV.ptr (nat_lit 0) (nat_lit 0), AV.int IntKind.i64 (0 : Int)]
 [AV.str s, AV.ptr (nat_lit 0) (nat_lit 0), AV.int IntKind.i64 (0 : Int)] ∧
 StIs { boxes := [some [AV.int IntKind.i64 (3 : Int), AV.int IntKind.i64 n, AV.str []]], live := [] }
 { boxes := [some [AV.int IntKind.i64 y.k, AV.int IntKind.i64 y.n, AV.str y.s]], live := [] } ∧
 y = gP s ∧ True) ∧
 (b = false →
 ∃ (n : Int),
 CallIs
 (tbl
 [(nat_lit 30, s30), (nat_lit 31, s31), (nat_lit 32, sContains), (nat_lit 12, s12), (nat_lit 33, s33),
 (nat_lit 10, s10)]
 (nat_lit 33) [AV.str s])
 (AV.tup [AV.int IntKind.i64 n, AV.ifc]) [] ∧
 (true = true →
 RetIs
 (AV.tup
 [AV.agg [AV.int IntKind.i64 (0 : Int), AV.int IntKind.i64 (0 : Int), AV.str []],
 AV.int IntKind.i64 (3 : Int)])
 [] (r, [])) ∧
 (true = false →
 ∃ (y : V3),
 ValsAre [AV.str s, AV.ptr (nat_lit 0) (nat_lit 0), AV.int IntKind.i64 (0 : Int)]
 [AV.str s, AV.ptr (nat_lit 0) (nat_lit 0), AV.int IntKind.i64 (0 : Int)] ∧
 StIs { boxes := [some [AV.int IntKind.i64 (2 : Int), AV.int IntKind.i64 n, AV.str []]], live := [] }
 { boxes := [some [AV.int IntKind.i64 y.k, AV.int IntKind.i64 y.n, AV.str y.s]], live := [] } ∧
 y = gP s ∧ True) ∨
 CallIs
 (tbl
 [(nat_lit 30, s30), (nat_lit 31, s31), (nat_lit 32, sContains), (nat_lit 12, s12), (nat_lit 33, s33),
 (nat_lit 10, s10)]
 (nat_lit 33) [AV.str s])
 (AV.tup [AV.int IntKind.i64 n, AV.lit Value.nilIface]) [] ∧
 (false = true →
 RetIs
 (AV.tup
 [AV.agg [AV.int IntKind.i64 (0 : Int), AV.int IntKind.i64 (0 : Int), AV.str []],
 AV.int IntKind.i64 (3 : Int)])
 [] (r, [])) ∧
 (false = false →
 ∃ (y : V3),
 ValsAre [AV.str s, AV.ptr (nat_lit 0) (nat_lit 0), AV.int IntKind.i64 (0 : Int)]
 [AV.str s, AV.ptr (nat_lit 0) (nat_lit 0), AV.int IntKind.i64 (0 : Int)] ∧
 StIs { boxes := [some [AV.int IntKind.i64 (2 : Int), AV.int IntKind.i64 n, AV.str []]], live := [] }
 { boxes := [some [AV.int IntKind.i64 y.k, AV.int IntKind.i64 y.n, AV.str y.s]], live := [] } ∧
 y = gP s ∧ True)))))))) ∧
  ∀ (x : V3),
    x = gP s →
      True →
        ∃ (s_1 : List UInt8),
 CallIs
 (tbl [(nat_lit 30, s30), (nat_lit 31, s31), (nat_lit 32, sContains), (nat_lit 12, s12), (nat_lit 33, s33), (nat_lit 10, s10)] (nat_lit 10)
 [AV.agg [AV.int IntKind.i64 x.k, AV.int IntKind.i64 x.n, AV.str x.s]])
 (AV.str s_1) [] ∧
 ((!s_1 == s) = true →
 RetIs (AV.tup [AV.agg [AV.int IntKind.i64 (0 : Int), AV.int IntKind.i64 (0 : Int), AV.str []], AV.int IntKind.i64 (3 : Int)]) [] (r, [])) ∧
 ((!s_1 == s) = false →
 ((s == []) = true →
 RetIs (AV.tup [AV.agg [AV.int IntKind.i64 (0 : Int), AV.int IntKind.i64 (0 : Int), AV.str []], AV.int IntKind.i64 (3 : Int)]) [] (r, [])) ∧
 ((s == []) = false →
 RetIs (AV.tup [AV.agg [AV.int IntKind.i64 x.k, AV.int IntKind.i64 x.n, AV.str x.s], AV.int IntKind.i64 (0 : Int)]) [] (r, [])))) := by kernel_rfl
end Go.Abs

namespace Go.Abs
open Go.Proofs L8
theorem p41 (m : Int) (s p : List UInt8) : PureOk PZ (GZ m) XT (tbl []) (itbl []) nAn [] 41 [.str s, .str p] (.bool (hasPfx s p), []) := by
  constructor
  generalize hr : AV.bool (hasPfx s p) = r
  rw [w41]
  simp only [retIs_iff, Prod.mk.injEq, and_true, beq_iff_eq, beq_eq_false_iff_ne, ne_eq, decide_eq_true_eq, decide_eq_false_iff_not, ge_iff_le, List.drop_zero, Int.toNat_natCast]
  unfold hasPfx at hr
  refine ⟨fun h => ⟨by omega, by omega, fun h1 => ?_, fun h1 => ?_⟩, fun h => ?_⟩
  · rw [← hr, decide_eq_true h1]
  · rw [← hr, decide_eq_false h1]
  · rw [← hr, decide_eq_false]
    intro h1
    have := congrArg List.length h1
    rw [List.length_take] at this
    omega
theorem o41 (m : Int) : SpecOk PZ (GZ m) 41 s30 := spec_of (X := XT) (m := []) mixedZ tbl_nil itbl_nil fun args r h => by
  unfold s30 at h
  split at h
  · injection h with h; subst h; exact ⟨nAn, p41 m _ _⟩
  · cases h
theorem o30 (m : Int) : SpecOk PZ (GZ m) 30 s30 := spec_of (X := XT) (m := []) mixedZ (tbl_cons (o41 m) tbl_nil) itbl_nil fun args r h => by
  unfold s30 at h
  split at h
  · injection h with h; subst h
    rename_i s p
    refine ⟨nAn, ⟨?_⟩⟩
    rw [w30]
    exact ⟨_, ⟨rfl⟩, fun hb => ⟨by rw [hb]⟩, fun hb => ⟨by rw [hb]⟩⟩
  · cases h
theorem trR_snoc_eq (c : UInt8) (l : List UInt8) : trR c (l ++ [c]) = trR c l := by unfold trR; simp
theorem trR_snoc_ne {c d : UInt8} (l : List UInt8) (h : d ≠ c) : trR c (l ++ [d]) = l ++ [d] := by
  unfold trR
  rw [List.reverse_append, List.reverse_singleton, List.singleton_append, List.dropWhile_cons, if_neg (by simpa using h)]
  simp
theorem take_snoc {s : List UInt8} {x : Nat} (h : x + 1 ≤ s.length) : s.take (x + 1) = s.take x ++ [s.getD x 0] := by
  rw [List.take_succ_eq_append_getElem (by omega), List.getD_eq_getElem?_getD, List.getElem?_eq_getElem (by omega)]; rfl
theorem u8c {a b : UInt8} : ((a.toNat : Int) = (b.toNat : Int)) ↔ a = b := by
  rw [Int.natCast_inj]; exact UInt8.toNat_inj
theorem p42 (m : Int) (s : List UInt8) (c : UInt8) (hs : strOk s) : PureOk PZ (GZ m) XT (tbl []) (itbl []) (a42 s c) [] 42 [.str s, .int .u8 c.toNat] (.str (trL c s), []) := by
  have hs' : s.length ≤ 1000000 := hs
  constructor
  generalize hr : AV.str (trL c s) = r
  rw [w42]
  simp only [valsAre_iff, stIs_iff, retIs_iff, Prod.mk.injEq, AV.str.injEq, List.cons.injEq, and_true, true_and, beq_iff_eq, beq_eq_false_iff_ne, ne_eq, decide_eq_true_eq, decide_eq_false_iff_not, gt_iff_lt, u8c]
  refine ⟨⟨0, by simp, by omega, by simp⟩, fun x ⟨hx, hI⟩ => ?_⟩
  by_cases hlt : x < s.length
  · have hd : s.drop x = s.getD x 0 :: s.drop (x + 1) := drop_cons hlt
    have htl : ((s.drop x).drop 1) = s.drop (x + 1) := by rw [List.drop_drop]
    refine ⟨fun h => ⟨by omega, s.getD x 0, by rw [hd]; rfl, fun he => ⟨by omega, by rw [hd]; simp, x + 1, by rw [List.take_length, htl], ⟨by omega, ?_⟩, by omega⟩, fun hne => ?_⟩, fun h => ?_⟩
    · rw [← hI, hd]; unfold trL; rw [List.dropWhile_cons, if_pos (by rw [he]; simp)]
    · rw [← hr, ← hI, hd]; unfold trL; rw [List.dropWhile_cons, if_neg (by simpa using hne)]
    · rw [List.length_drop] at h; omega
  · have hd : s.drop x = [] := List.drop_eq_nil_of_le (by omega)
    rw [hd] at hI ⊢
    refine ⟨fun h => by simp at h, fun h => ?_⟩
    rw [← hr, ← hI]; rfl
theorem p43 (m : Int) (s : List UInt8) (c : UInt8) (hs : strOk s) : PureOk PZ (GZ m) XT (tbl []) (itbl []) (a43 s c) [] 43 [.str s, .int .u8 c.toNat] (.str (trR c s), []) := by
  have hs' : s.length ≤ 1000000 := hs
  constructor
  generalize hr : AV.str (trR c s) = r
  rw [w43]
  simp only [valsAre_iff, stIs_iff, retIs_iff, Prod.mk.injEq, AV.str.injEq, List.cons.injEq, and_true, true_and, beq_iff_eq, beq_eq_false_iff_ne, ne_eq, decide_eq_true_eq, decide_eq_false_iff_not, gt_iff_lt, u8c]
  refine ⟨⟨s.length, by simp, by omega, by simp⟩, fun x ⟨hx, hI⟩ => ?_⟩
  have hlen : (s.take x).length = x := by rw [List.length_take]; omega
  rw [hlen]
  match x, hx, hI, hlen with
  | 0, hx, hI, hlen =>
    refine ⟨fun h => by omega, fun h => ?_⟩
    rw [← hr, ← hI]; simp [trR]
  | x + 1, hx, hI, hlen =>
    have ht := take_snoc hx
    have hw : IntKind.i64.wrap (((x + 1 : Nat) : Int) - 1) = (x : Int) := by rw [wrap64_in (by omega) (by omega)]; omega
    rw [hw, Int.toNat_natCast, ht]
    refine ⟨fun h => ⟨by omega, s.getD x 0, ?_, fun he => ⟨by omega, by omega, x, ?_, ⟨by omega, ?_⟩, by omega⟩, fun hne => ?_⟩, fun h => by omega⟩
    · rw [List.getElem?_append_right (by rw [List.length_take]; omega), List.length_take, Nat.min_eq_left (by omega), Nat.sub_self]; rfl
    · rw [List.drop_zero, List.take_append_of_le_length (by rw [List.length_take]; omega), List.take_take, Nat.min_self]
    · rw [← hI, ht, he, trR_snoc_eq]
    · rw [← hr, ← hI, ht, trR_snoc_ne _ hne]
theorem sTrim_of {X : Shapes} {R : Callee} {C : CCallee} {m : Int} {g : FuncId} {f : UInt8 → List UInt8 → List UInt8} (hR : CalleeOk PZ (GZ m) R) (hC : ICalleeOk PZ (GZ m) (lowC C))
    (h : ∀ s c, strOk s → ∃ A, PureOk PZ (GZ m) X R C A [] g [.str s, .int .u8 (c : UInt8).toNat] (.str (f c s), [])) : SpecOk PZ (GZ m) g (sTrim f) := spec_of (X := X) (m := []) mixedZ hR hC fun args r h' => by
  unfold sTrim at h'
  split at h'
  · split at h'
    · rename_i s c hc
      injection h' with h'; subst h'
      have hn : c = ((UInt8.ofNat c.toNat).toNat : Int) := by rw [UInt8.toNat_ofNat']; omega
      have := h s (UInt8.ofNat c.toNat) hc.1
      rw [← hn] at this
      exact this
    · cases h'
  · cases h'
theorem o42 (m : Int) : SpecOk PZ (GZ m) 42 s42 := sTrim_of (X := XT) tbl_nil itbl_nil fun s c hs => ⟨a42 s c, p42 m s c hs⟩
theorem o43 (m : Int) : SpecOk PZ (GZ m) 43 s43 := sTrim_of (X := XT) tbl_nil itbl_nil fun s c hs => ⟨a43 s c, p43 m s c hs⟩
theorem trR_len (c : UInt8) (s : List UInt8) : (trR c s).length ≤ s.length := by
  unfold trR
  rw [List.length_reverse]
  have := (List.dropWhile_sublist (fun x => x == c) (l := s.reverse)).length_le
  simpa using this
theorem trL_len (c : UInt8) (s : List UInt8) : (trL c s).length ≤ s.length := (List.dropWhile_sublist (fun x => x == c) (l := s)).length_le
theorem p31 (m : Int) (s : List UInt8) (hs : strOk s) : PureOk PZ (GZ m) XT (tbl [(42, s42), (43, s43)]) (itbl []) nAn [] 31 [.str s, .str [34]] (.str (trL 34 (trR 34 s)), []) := by
  have hs2 : strOk (trR 34 s) := Nat.le_trans (trR_len 34 s) hs
  constructor
  generalize hr : AV.str (trL 34 (trR 34 s)) = r
  have t1 : tbl [(42, s42), (43, s43)] 43 [.str s, .int .u8 ((34 : UInt8).toNat : Int)] = some (.str (trR 34 s), []) := by
    rw [tbl_miss (by decide), tbl_hit]; simp only [s43, sTrim]; rw [if_pos ⟨hs, by decide, by decide⟩]; rfl
  have t2 : tbl [(42, s42), (43, s43)] 42 [.str (trR 34 s), .int .u8 ((34 : UInt8).toNat : Int)] = some (.str (trL 34 (trR 34 s)), []) := by
    rw [tbl_hit]; simp only [s42, sTrim]; rw [if_pos ⟨hs2, by decide, by decide⟩]; rfl
  rw [w31]
  simp only [beq_iff_eq, beq_eq_false_iff_ne, ne_eq]
  refine ⟨fun h => ⟨by rw [← hr, h]; rfl⟩, fun h => ⟨fun h => (nomatch h), fun _ => ⟨fun _ => ⟨by omega, 34, rfl, fun _ => ⟨by omega, 34, rfl, trR 34 s, ⟨t1⟩, by omega, 34, rfl, _, ⟨t2⟩, ⟨by rw [← hr]⟩⟩, fun h => ?_⟩, fun h => (nomatch h)⟩⟩⟩
  exact absurd h (by decide)
theorem o31 (m : Int) : SpecOk PZ (GZ m) 31 s31 := spec_of (X := XT) (m := []) mixedZ (tbl_cons (o42 m) (tbl_cons (o43 m) tbl_nil)) itbl_nil fun args r h => by
  unfold s31 at h
  split at h
  · split at h
    · rename_i hs
      injection h with h; subst h
      exact ⟨nAn, p31 m _ hs⟩
    · cases h
  · cases h
end Go.Abs

namespace Go.Abs
open Go.Proofs L8
end Go.Abs

namespace Go.Abs
open Go.Proofs L8
theorem valF_ge : ∀ (l : List UInt8) (n : Nat), n ≤ valF n l
  | [], n => Nat.le_refl _
  | c :: l, n => by
    have := valF_ge l (10 * n + (c.toNat - 48))
    simp only [valF, List.foldl_cons] at this ⊢
    omega
theorem parse_digits : ∀ (l : List UInt8) (n : Nat), l.all digitB = true → n < 18446744073709551616 →
    Lib.parseUint10 n l = if valF n l < 18446744073709551616 then .ok (valF n l) else .range
  | [], n, _, hn => by simp [Lib.parseUint10, valF, hn]
  | c :: l, n, hd, hn => by
    simp only [List.all_cons, Bool.and_eq_true, digitB_iff] at hd
    have hv : valF n (c :: l) = valF (10 * n + (c.toNat - 48)) l := rfl
    have hge := valF_ge l (10 * n + (c.toNat - 48))
    simp only [Lib.parseUint10]
    rw [if_pos hd.1, hv]
    by_cases h1 : 1844674407370955162 ≤ n
    · rw [if_pos h1, if_neg (by omega)]
    · rw [if_neg h1]
      by_cases h2 : 18446744073709551616 ≤ n * 10 + (c.toNat - 48)
      · rw [if_pos h2, if_neg (by omega)]
      · rw [if_neg h2, Nat.mul_comm n 10]
        exact parse_digits l _ hd.2 (by omega)
theorem dig_ofNat {d : Nat} (h : d < 10) : digitB (UInt8.ofNat (48 + d)) = true ∧ (UInt8.ofNat (48 + d)).toNat = 48 + d := by
  have : (UInt8.ofNat (48 + d)).toNat = 48 + d := by rw [UInt8.toNat_ofNat']; omega
  exact ⟨by rw [digitB_iff, this]; omega, this⟩
theorem decD_all (n : Nat) : (Lib.decDigits n).all digitB = true := by
  induction n using Nat.strongRecOn with
  | ind n ih =>
    rw [decD_step]
    by_cases h : n < 10
    · rw [if_pos h, List.nil_append, List.all_cons, (dig_ofNat (d := n % 10) (by omega)).1]; rfl
    · rw [if_neg h, List.all_append, ih _ (by omega), List.all_cons, (dig_ofNat (d := n % 10) (by omega)).1]; rfl
theorem decD_val (n : Nat) : valL (Lib.decDigits n) = n := by
  induction n using Nat.strongRecOn with
  | ind n ih =>
    rw [decD_step, valL_snoc, (dig_ofNat (d := n % 10) (by omega)).2]
    by_cases h : n < 10
    · rw [if_pos h]; simp [valL]; omega
    · rw [if_neg h, ih _ (by omega)]; omega
theorem decD_ne (n : Nat) : Lib.decDigits n ≠ [] := by rw [decD_step]; simp
theorem lowD_all : ∀ k n, (lowD k n).all digitB = true
  | 0, _ => rfl
  | k + 1, n => by rw [lowD, List.all_append, lowD_all k, List.all_cons, (dig_ofNat (d := n % 10) (by omega)).1]; rfl
theorem lowD_val : ∀ k n, n < 10 ^ k → valL (lowD k n) = n
  | 0, n, h => by simp at h; subst h; rfl
  | k + 1, n, h => by
    rw [Nat.pow_succ] at h
    rw [lowD, valL_snoc, lowD_val k _ (by omega), (dig_ofNat (d := n % 10) (by omega)).2]; omega
theorem padD_all (n : Nat) : (padD n).all digitB = true := by
  unfold padD restD; split
  · exact lowD_all _ _
  · exact decD_all _
theorem padD_val (n : Nat) : valL (padD n) = n := by
  unfold padD restD; split
  · rename_i h; exact lowD_val _ _ h
  · exact decD_val _
/-- parts of a decimal's text -/
theorem point_parts {N : Nat} (h : N < 10 ^ 20) : ∃ a b, pointL (padD N) = a ++ 46 :: b ∧ a ++ b = padD N ∧ a ≠ [] ∧ b.length = 6 ∧ a.all digitB = true ∧ b.all digitB = true := by
  have hl := padD_len h
  have ha := padD_all N
  refine ⟨(padD N).take ((padD N).length - 6), (padD N).drop ((padD N).length - 6), rfl, List.take_append_drop _ _, fun e => ?_, by simp; omega, ?_, ?_⟩
  · have := congrArg List.length e; rw [List.length_take] at this; simp at this; omega
  · exact List.all_eq_true.2 fun x hx => List.all_eq_true.1 ha x (List.mem_of_mem_take hx)
  · exact List.all_eq_true.2 fun x hx => List.all_eq_true.1 ha x (List.mem_of_mem_drop hx)
theorem head_dig {l : List UInt8} (h : l.all digitB = true) (hne : l ≠ []) : ∃ c t, l = c :: t ∧ digitB c = true := by
  cases l with
  | nil => exact absurd rfl hne
  | cons c t => simp at h; exact ⟨c, t, rfl, h.1⟩
def numOk (n : Int) : Prop := -1152921504606846976 ≤ n ∧ n ≤ 1152921504606846976
theorem numOk.i64 {n : Int} (h : numOk n) : i64Ok n := ⟨by have := h.1; omega, by have := h.2; omega⟩
theorem negB_sign {n : Int} {c : UInt8} {t : List UInt8} (hc : digitB c = true) : negB (signL n ++ c :: t) = decide (n < 0) := by
  unfold signL negB
  by_cases h : n < 0
  · rw [if_pos h, decide_eq_true h]; rfl
  · rw [if_neg h, decide_eq_false h]
    rw [digitB_iff] at hc
    have : c ≠ 45 := by rintro rfl; simp at hc
    simp [this]
theorem drop_sign {n : Int} {l : List UInt8} : (if decide (n < 0) = true then (signL n ++ l).drop 1 else signL n ++ l) = l := by
  unfold signL
  by_cases h : n < 0
  · rw [if_pos (decide_eq_true h), if_pos h]; rfl
  · rw [if_neg (by simpa using h), if_neg h]; rfl
theorem decP_decF {n : Int} (h : numOk n) : decP (decF n) = (n, 0) := by
  obtain ⟨a, b, he, hab, hne, hb, hda, hdb⟩ := point_parts (natAbs20 h.i64)
  obtain ⟨c, t, hc, hd⟩ := head_dig hda hne
  have hN : negB (decF n) = decide (n < 0) := by
    unfold decF; rw [he, hc]; exact negB_sign hd
  unfold decP
  rw [hN]
  have hr : (if decide (n < 0) = true then (decF n).drop 1 else decF n) = a ++ 46 :: b := by
    unfold decF; rw [drop_sign, he]
  rw [hr]
  unfold decR
  have hf : dfold (a ++ 46 :: b) = some (a ++ b, some 6) := by
    unfold dfold
    rw [List.foldl_append, dfold_digits a [] none hda, List.foldl_cons]
    have : dstep (some ([] ++ a, Option.map (· + a.length) none)) 46 = some (a, some 0) := by
      simp only [dstep, List.nil_append]; rw [if_pos ⟨trivial, rfl, hne⟩]
    rw [this, dfold_digits b a (some 0) hdb, hb]
    rfl
  rw [hf]
  simp only [Option.getD_some]
  have hno : ¬ (a ++ b = [] ∨ some 6 = some 0 ∨ 6 < 6) := by
    rintro (h | h | h)
    · exact hne (List.append_eq_nil_iff.1 h).1
    · simp at h
    · omega
  rw [if_neg hno, hab, padD_val]
  unfold decFin
  obtain ⟨h1, h2⟩ := h
  rw [Nat.sub_self, Nat.pow_zero, Nat.mul_one, if_neg (by have : (2 : Nat) ^ 60 = 1152921504606846976 := by decide
                                                          omega)]
  by_cases hn : n < 0
  · rw [if_pos (decide_eq_true hn)]; congr 1; omega
  · rw [if_neg (by simpa using hn)]; congr 1; omega
theorem atoi_itoa {n : Int} (h : numOk n) : Lib.atoiAll (Lib.itoa n) = .ok n := by
  obtain ⟨h1, h2⟩ := h
  have hp : Lib.parseMag (Lib.decDigits n.natAbs) = .ok n.natAbs := by
    unfold Lib.parseMag
    have hv : valF 0 (Lib.decDigits n.natAbs) = n.natAbs := by rw [← valL_eq, decD_val]
    rw [if_neg (decD_ne _), parse_digits _ 0 (decD_all _) (by omega), hv, if_pos (by omega)]
  obtain ⟨c, t, hc, hd⟩ := head_dig (decD_all n.natAbs) (decD_ne _)
  rw [digitB_iff] at hd
  rw [itoa_eq]
  unfold signL
  by_cases hn : n < 0
  · rw [if_pos hn]
    show Lib.atoiAll (45 :: Lib.decDigits n.natAbs) = _
    simp only [Lib.atoiAll]
    rw [if_pos (by decide), hp]
    simp only
    rw [if_neg (by simp), if_neg (by simp; omega), if_pos (by decide)]
    congr 1; omega
  · rw [if_neg hn, List.nil_append]
    rw [hc] at hp ⊢
    simp only [Lib.atoiAll]
    rw [if_neg (by omega), hp]
    simp only
    rw [if_neg (by omega), if_neg (by omega), if_neg (by omega)]
    congr 1; omega
theorem contains_mem (s : List UInt8) : Lib.contains s [46] = decide (46 ∈ s) := by
  unfold Lib.contains
  rw [Lib.index_one, ← Lib.contains_iff_indexByte]
  simp
end Go.Abs

namespace Go.Abs
open Go.Proofs L8
/-- a valid value, kind by kind -/
theorem valid_cases {k n : Int} {s : List UInt8} (h : validB k n s = true) :
    (k = 0 ∧ n = 0 ∧ s = []) ∨ (k = 1 ∧ (n = 0 ∨ n = 1) ∧ s = []) ∨ ((k = 2 ∨ k = 3) ∧ numOk n ∧ s = []) ∨ (k = 4 ∧ n = 0 ∧ textB s = true) ∨ (k = 5 ∧ n = 0 ∧ keyB s = true) := by
  have hc : checkI k n s = 0 := by simpa [validB] using h
  unfold checkI at hc
  split at hc
  · cases hc
  · split at hc
    · cases hc
    · split at hc
      · cases hc
      · rename_i h1 h2 h3
        rw [Bool.not_eq_false] at h1
        unfold fieldsB at h1
        by_cases k0 : k = 0
        · rw [if_pos k0] at h1; simp at h1; exact .inl ⟨k0, h1⟩
        · rw [if_neg k0] at h1
          by_cases k1 : k = 1
          · rw [if_pos k1] at h1; simp at h1; exact .inr (.inl ⟨k1, h1⟩)
          · rw [if_neg k1] at h1
            by_cases k2 : k = 2 ∨ k = 3
            · rw [if_pos k2] at h1
              refine .inr (.inr (.inl ⟨k2, ?_, by simpa using h1⟩))
              have : ¬ inR n = false := fun e => h2 (.inl e)
              have h9 : -1152921504606846976 ≤ n ∧ n ≤ 1152921504606846976 := by simpa [inR] using this
              exact h9
            · rw [if_neg k2] at h1
              by_cases k3 : k = 4 ∨ k = 5
              · rw [if_pos k3] at h1
                rcases k3 with k3 | k3
                · exact .inr (.inr (.inr (.inl ⟨k3, by simpa using h1, by
                    cases ht : textB s with
                    | true => rfl
                    | false => exact absurd (.inl ⟨k3, ht⟩) h3⟩)))
                · exact .inr (.inr (.inr (.inr ⟨k3, by simpa using h1, by
                    cases ht : keyB s with
                    | true => rfl
                    | false => exact absurd (.inr ⟨k3, ht⟩) h3⟩)))
              · rw [if_neg k3] at h1; cases h1
theorem fmt_valid {k n : Int} {s : List UInt8} (h : validB k n s = true) : fmtL k n s =
    if k = 1 then (if n = 1 then trueT else falseT) else
    if k = 2 then Lib.itoa n else if k = 3 then decF n else if k = 4 then [34] ++ s ++ [34] else if k = 5 then [64] ++ s else nullT := by
  unfold fmtL; rw [if_neg (by rw [h]; simp)]
/-- the text of a number begins with a digit or a sign -/
theorem head_num {n : Int} {l : List UInt8} (h : ∃ c t, l = c :: t ∧ digitB c = true) : ∃ c t, signL n ++ l = c :: t ∧ (c = 45 ∨ digitB c = true) := by
  obtain ⟨c, t, rfl, hd⟩ := h
  unfold signL
  by_cases hn : n < 0
  · rw [if_pos hn]; exact ⟨45, c :: t, rfl, .inl rfl⟩
  · rw [if_neg hn]; exact ⟨c, t, rfl, .inr hd⟩
theorem head_itoa (n : Int) : ∃ c t, Lib.itoa n = c :: t ∧ (c = 45 ∨ digitB c = true) := by
  rw [itoa_eq]; exact head_num (head_dig (decD_all _) (decD_ne _))
theorem head_decF {n : Int} (h : numOk n) : ∃ c t, decF n = c :: t ∧ (c = 45 ∨ digitB c = true) := by
  obtain ⟨a, b, he, hab, hne, hb, hda, hdb⟩ := point_parts (natAbs20 h.i64)
  unfold decF
  rw [he]
  obtain ⟨c, t, hc, hd⟩ := head_dig hda hne
  exact head_num ⟨c, t ++ 46 :: b, by rw [hc]; rfl, hd⟩
theorem head_not {l : List UInt8} (h : ∃ c t, l = c :: t ∧ (c = 45 ∨ digitB c = true)) : l ≠ nullT ∧ l ≠ trueT ∧ l ≠ falseT ∧ hasPfx l [64] = false ∧ hasPfx l [34] = false ∧ l.getD 0 0 ≠ 34 ∧ l.getD 0 0 ≠ 64 := by
  obtain ⟨c, t, rfl, hd⟩ := h
  have hc : c = 45 ∨ 48 ≤ c.toNat ∧ c.toNat ≤ 57 := by rw [digitB_iff] at hd; exact hd
  have hne : ∀ d : UInt8, d ≠ 45 → ¬ (48 ≤ d.toNat ∧ d.toNat ≤ 57) → c ≠ d := fun d h1 h2 h3 => by
    subst h3; rcases hc with h | h
    · exact h1 h
    · exact h2 h
  refine ⟨fun h => ?_, fun h => ?_, fun h => ?_, ?_, ?_, hne 34 (by decide) (by decide), hne 64 (by decide) (by decide)⟩
  · injection h with h _; exact hne 110 (by decide) (by decide) h
  · injection h with h _; exact hne 116 (by decide) (by decide) h
  · injection h with h _; exact hne 102 (by decide) (by decide) h
  · unfold hasPfx; rw [decide_eq_false]; intro h; simp at h; exact hne 64 (by decide) (by decide) h
  · unfold hasPfx; rw [decide_eq_false]; intro h; simp at h; exact hne 34 (by decide) (by decide) h
theorem decF_mem {n : Int} (h : numOk n) : (46 : UInt8) ∈ decF n := by
  obtain ⟨a, b, he, _⟩ := point_parts (natAbs20 h.i64)
  unfold decF; rw [he]; simp
theorem itoa_mem (n : Int) : ¬ (46 : UInt8) ∈ Lib.itoa n := by
  rw [itoa_eq]
  intro hm
  rw [List.mem_append] at hm
  rcases hm with hm | hm
  · unfold signL at hm; split at hm <;> simp at hm
  · have := List.all_eq_true.1 (decD_all n.natAbs) _ hm
    simp [digitB] at this
theorem text_noq {s : List UInt8} (h : textB s = true) : ∀ c ∈ s, c ≠ 34 := by
  unfold textB at h
  rw [Bool.and_eq_true] at h
  intro c hc
  have := List.all_eq_true.1 h.2 c hc
  unfold printB at this
  simp only [Bool.and_eq_true, decide_eq_true_eq] at this
  rintro rfl
  simp at this
theorem trL_noq {s : List UInt8} (h : ∀ c ∈ s, c ≠ 34) : trL 34 s = s := by
  unfold trL
  cases s with
  | nil => rfl
  | cons c t => rw [List.dropWhile_cons, if_neg (by simpa using h c (by simp))]
theorem trim_quoted {s : List UInt8} (h : ∀ c ∈ s, c ≠ 34) : trL 34 (trR 34 ([34] ++ s ++ [34])) = s := by
  rw [trR_snoc_eq]
  by_cases hs : s = []
  · subst hs; decide
  · obtain ⟨l, c, e⟩ : ∃ l c, s = l ++ [c] := ⟨s.dropLast, s.getLast hs, (List.dropLast_concat_getLast hs).symm⟩
    have h1 : trR 34 ([34] ++ s) = [34] ++ s := by
      rw [e, ← List.append_assoc]; exact trR_snoc_ne _ (h c (by rw [e]; simp))
    rw [h1]
    show trL 34 (34 :: s) = s
    unfold trL
    rw [List.dropWhile_cons, if_pos (by simp)]
    exact trL_noq h
theorem gP_fmt {k n : Int} {s : List UInt8} (h : validB k n s = true) : gP (fmtL k n s) = ⟨k, n, s⟩ := by
  rw [fmt_valid h]
  rcases valid_cases h with ⟨rfl, rfl, rfl⟩ | ⟨rfl, hn, rfl⟩ | ⟨hk, hn, rfl⟩ | ⟨rfl, rfl, hs⟩ | ⟨rfl, rfl, hs⟩
  · rfl
  · rcases hn with rfl | rfl <;> rfl
  · rcases hk with rfl | rfl
    · obtain ⟨h1, h2, h3, h4, h5, _⟩ := head_not (head_itoa n)
      show gP (Lib.itoa n) = _
      unfold gP atoiB atoiV
      rw [if_neg h1, if_neg (fun h => h.elim h2 h3), if_neg (by rw [h4]; simp), if_neg (by rw [h5]; simp), contains_mem, if_neg (by simpa using itoa_mem n), atoi_itoa hn]
      rfl
    · obtain ⟨h1, h2, h3, h4, h5, _⟩ := head_not (head_decF hn)
      show gP (decF n) = _
      unfold gP
      rw [if_neg h1, if_neg (fun h => h.elim h2 h3), if_neg (by rw [h4]; simp), if_neg (by rw [h5]; simp), contains_mem, if_pos (by simpa using decF_mem hn), decP_decF hn]
  · show gP ([34] ++ s ++ [34]) = _
    have e1 : hasPfx ([34] ++ s ++ [34]) [64] = false := by unfold hasPfx; simp
    have e2 : hasPfx ([34] ++ s ++ [34]) [34] = true := by unfold hasPfx; simp
    unfold gP
    rw [if_neg (by intro h; injection h with h _; exact absurd h (by decide)), if_neg (fun h => h.elim (fun h => absurd (List.cons.inj h).1 (by decide)) (fun h => absurd (List.cons.inj h).1 (by decide))), if_neg (by rw [e1]; simp), if_pos e2, trim_quoted (text_noq hs)]
  · show gP ([64] ++ s) = _
    have e1 : hasPfx ([64] ++ s) [64] = true := by unfold hasPfx; simp
    unfold gP
    rw [if_neg (by intro h; injection h with h _; exact absurd h (by decide)), if_neg (fun h => h.elim (fun h => absurd (List.cons.inj h).1 (by decide)) (fun h => absurd (List.cons.inj h).1 (by decide))), if_pos e1]
    rfl
theorem fmt_ne {k n : Int} {s : List UInt8} (h : validB k n s = true) : fmtL k n s ≠ [] := by
  rw [fmt_valid h]
  rcases valid_cases h with ⟨rfl, rfl, rfl⟩ | ⟨rfl, hn, rfl⟩ | ⟨hk, hn, rfl⟩ | ⟨rfl, rfl, hs⟩ | ⟨rfl, rfl, hs⟩
  · decide
  · rcases hn with rfl | rfl <;> decide
  · rcases hk with rfl | rfl
    · obtain ⟨c, t, e, _⟩ := head_itoa n
      show Lib.itoa n ≠ []
      rw [e]; simp
    · obtain ⟨c, t, e, _⟩ := head_decF hn
      show decF n ≠ []
      rw [e]; simp
  · show [34] ++ s ++ [34] ≠ []
    simp
  · show [64] ++ s ≠ []
    simp
theorem parse_fmt {k n : Int} {s : List UInt8} (h : validB k n s = true) : parseV (fmtL k n s) = (⟨k, n, s⟩, 0) := by
  unfold parseV endP
  rw [gP_fmt h, if_pos ⟨fmt_ne h, rfl⟩]
end Go.Abs

namespace Go.Abs
open Go.Proofs L8
theorem decP_ok (s : List UInt8) : i64Ok (decP s).1 := by
  have e : (2 : Nat) ^ 60 = 1152921504606846976 := by decide
  unfold decP decR
  split
  · exact ⟨by decide, by decide⟩
  · split
    · exact ⟨by decide, by decide⟩
    · rename_i ds k _ _
      unfold decFin
      split
      · exact ⟨by decide, by decide⟩
      · rename_i h
        split
        · exact ⟨by simp only []; omega, by simp only []; omega⟩
        · exact ⟨by simp only []; omega, by simp only []; omega⟩
theorem atoiV_ok (s : List UInt8) : i64Ok (atoiV s) := by
  unfold atoiV
  split
  · rename_i v h
    unfold Lib.atoiAll at h
    split at h
    · cases h
    · simp only at h
      split at h
      · cases h
      · cases h
      · split at h
        · cases h
        · split at h
          · cases h
          · injection h with h
            rw [← h]
            split
            · exact ⟨by omega, by omega⟩
            · exact ⟨by omega, by omega⟩
  · unfold Lib.atoiSat
    split
    · exact ⟨by decide, by decide⟩
    · exact ⟨by decide, by decide⟩
  · exact ⟨by decide, by decide⟩
theorem str_nil : strOk [] := by show ([] : List UInt8).length ≤ _; simp
theorem gP_ok {s : List UInt8} (hs : strOk s) : strOk (gP s).s ∧ i64Ok (gP s).n := by
  have h0 : i64Ok 0 := ⟨by decide, by decide⟩
  have h1 : i64Ok 1 := ⟨by decide, by decide⟩
  have hs' : s.length ≤ 1000000 := hs
  unfold gP
  split
  · exact ⟨str_nil, h0⟩
  · split
    · refine ⟨str_nil, ?_⟩
      show i64Ok (if s = trueT then 1 else 0)
      split
      · exact h1
      · exact h0
    · split
      · exact ⟨by show (s.drop 1).length ≤ _; simp; omega, h0⟩
      · split
        · refine ⟨?_, h0⟩
          have a := trL_len 34 (trR 34 s)
          have b := trR_len 34 s
          show (trL 34 (trR 34 s)).length ≤ _
          omega
        · split
          · exact ⟨str_nil, decP_ok s⟩
          · split
            · exact ⟨str_nil, atoiV_ok s⟩
            · exact ⟨str_nil, h0⟩
theorem p13 (m : Int) (s : List UInt8) (hs : strOk s) : PureOk PZ (GZ m) XT (tbl [(30, s30), (31, s31), (32, sContains), (12, s12), (33, s33), (10, s10)]) (itbl []) (a13 s) [] 13 [.str s] (.tup [aV (parseV s).1, .int .i64 (parseV s).2], []) := by
  have hs' : s.length ≤ 1000000 := hs
  obtain ⟨g1, g2⟩ := gP_ok hs
  have t1 : tbl [(30, s30), (31, s31), (32, sContains), (12, s12), (33, s33), (10, s10)] 31 [.str s, .str [34]] = some (.str (trL 34 (trR 34 s)), []) := by rw [tbl_miss (by decide), tbl_hit]; simp only [s31, hs, if_true]
  have t2 : tbl [(30, s30), (31, s31), (32, sContains), (12, s12), (33, s33), (10, s10)] 32 [.str s, .str [46]] = some (.bool (Lib.contains s [46]), []) := by rw [tbl_miss (by decide), tbl_miss (by decide), tbl_hit]; simp only [sContains]; rw [if_pos (by omega)]
  have t3 : tbl [(30, s30), (31, s31), (32, sContains), (12, s12), (33, s33), (10, s10)] 12 [.str s] = some (.tup [.int .i64 (decP s).1, .int .i64 (decP s).2], []) := by rw [tbl_miss (by decide), tbl_miss (by decide), tbl_miss (by decide), tbl_hit]; simp only [s12]; rw [if_pos hs']
  have t4 : tbl [(30, s30), (31, s31), (32, sContains), (12, s12), (33, s33), (10, s10)] 33 [.str s] = some (.tup [.int .i64 (atoiV s), if atoiB s = true then .lit .nilIface else .ifc], []) := by rw [tbl_miss (by decide), tbl_miss (by decide), tbl_miss (by decide), tbl_miss (by decide), tbl_hit]; simp only [s33, hs, if_true]
  have t5 : ∀ g : V3, strOk g.s → i64Ok g.n → tbl [(30, s30), (31, s31), (32, sContains), (12, s12), (33, s33), (10, s10)] 10 [.agg [.int .i64 g.k, .int .i64 g.n, .str g.s]] = some (.str (fmtL g.k g.n g.s), []) := fun g h1 h2 => by
    rw [tbl_miss (by decide), tbl_miss (by decide), tbl_miss (by decide), tbl_miss (by decide), tbl_miss (by decide), tbl_hit]; simp only [s10, sVal', h1, h2, and_self, if_true]
  constructor
  generalize hr : AV.tup [aV (parseV s).1, .int .i64 (parseV s).2] = r
  rw [w13]
  simp only [t1, t2, t3, t4, callIs_iff, Option.some.injEq, valsAre_iff, stIs_iff, retIs_iff, Prod.mk.injEq, AV.str.injEq, AV.int.injEq, AV.bool.injEq, AV.tup.injEq, List.cons.injEq, and_true, true_and, beq_iff_eq, beq_eq_false_iff_ne, ne_eq, Bool.not_eq_true', Bool.not_eq_false', true_imp_iff, St.mk.injEq, exists_eq_left', reduceCtorEq, false_imp_iff]
  have mk : ∀ (k n : Int) (t : List UInt8), gP s = ⟨k, n, t⟩ → ∃ y : V3, (k = y.k ∧ n = y.n ∧ t = y.s) ∧ y = gP s := fun k n t h => ⟨gP s, by rw [h]; exact ⟨rfl, rfl, rfl⟩, rfl⟩
  have hbool : ∀ {b : Bool}, b = false → ¬ b = true := fun {b} h => by rw [h]; simp
  refine ⟨⟨fun c1 => mk _ _ _ ?_, fun c1 => ⟨fun c2 => ⟨fun _ => mk _ _ _ ?_, fun h => absurd c2 h⟩, fun c2 => ⟨fun c3 => ⟨fun h => absurd h c2, fun _ => mk _ _ _ ?_⟩, fun c3 => ⟨fun c4 => ⟨by omega, ?_, mk _ _ _ ?_⟩, fun c4 => ⟨fun c5 => mk _ _ _ ?_, fun c5 => ⟨fun c6 => ⟨_, _, ⟨rfl, rfl⟩, mk _ _ _ ?_⟩, fun c6 => ?_⟩⟩⟩⟩⟩⟩, ?_⟩
  · unfold gP; rw [if_pos c1]; rfl
  · unfold gP; rw [if_neg c1, if_pos (.inl c2), if_pos c2]
  · unfold gP; rw [if_neg c1, if_pos (.inr c3), if_neg c2]
  · have : s.take 1 = [64] := by simpa [hasPfx] using c4
    have := congrArg List.length this
    rw [List.length_take] at this
    simp at this
    omega
  · unfold gP; rw [if_neg c1, if_neg (fun h => h.elim c2 c3), if_pos c4, List.take_length]
  · unfold gP; rw [if_neg c1, if_neg (fun h => h.elim c2 c3), if_neg (hbool c4), if_pos c5]
  · unfold gP; rw [if_neg c1, if_neg (fun h => h.elim c2 c3), if_neg (hbool c4), if_neg (hbool c5), if_pos c6]
  · have hg : gP s = if atoiB s = true then ⟨2, atoiV s, []⟩ else nullV := by
      unfold gP; rw [if_neg c1, if_neg (fun h => h.elim c2 c3), if_neg (hbool c4), if_neg (hbool c5), if_neg (hbool c6)]
    cases hA : atoiB s with
    | true =>
      rw [if_pos hA] at hg
      exact ⟨_, .inr ⟨⟨rfl, rfl⟩, mk _ _ _ hg⟩⟩
    | false =>
      rw [if_neg (hbool hA)] at hg
      refine ⟨_, .inl ⟨⟨rfl, rfl⟩, ?_⟩⟩
      rw [← hr]
      unfold parseV endP
      rw [hg, if_neg]
      · rfl
      · intro h
        exact c1 h.2.symm
  · rintro x rfl
    refine ⟨_, t5 _ g1 g2, fun h => ?_, fun h => ⟨fun h2 => ?_, fun h2 => ?_⟩⟩
    · rw [← hr]; unfold parseV endP; rw [if_neg (fun h3 => h h3.2)]; rfl
    · rw [← hr]; unfold parseV endP; rw [if_neg (fun h3 => h3.1 h2)]; rfl
    · rw [← hr]; unfold parseV endP; rw [if_pos ⟨h2, h⟩]; rfl
theorem o13 (m : Int) : SpecOk PZ (GZ m) 13 s13 := spec_of (X := XT) (m := []) mixedZ (tbl_cons (o30 m) (tbl_cons (o31 m) (tbl_cons (o32 m) (tbl_cons (o12 m) (tbl_cons (o33 m) (tbl_cons (o10 m) tbl_nil)))))) itbl_nil fun args r h => by
  unfold s13 at h
  split at h
  · split at h
    · rename_i hs
      injection h with h; subst h; exact ⟨a13 _, p13 m _ hs⟩
    · cases h
  · cases h
end Go.Abs
