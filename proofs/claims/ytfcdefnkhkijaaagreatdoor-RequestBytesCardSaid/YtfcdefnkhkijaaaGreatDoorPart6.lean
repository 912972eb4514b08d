/- Own texts, part 6. -/
import Derived.Test.YtfcdefnkhkijaaaGreatDoorPart5
import Derived.Laws.BitsAllLaws
import Derived.Test.YtfcdefnkhkijaaaGreatDoorPart4
import Derived.Test.YtfcdefnkhkijaaaGreatDoorPart3

namespace Go.Abs
open Go.Proofs Go.Wire
theorem wrapu64 (n : Int) : IntKind.u64.wrap n = n % 18446744073709551616 := by simp [IntKind.wrap, IntKind.bits, IntKind.signed]
theorem wrapu8 (n : Int) : IntKind.u8.wrap n = n % 256 := by simp [IntKind.wrap, IntKind.bits, IntKind.signed]
theorem or128 : ∀ x, x < 256 → x ||| 128 = x % 128 + 128 := by decide +kernel
theorem byteOr (N : Nat) : IntKind.u8.wrap (↑(BitVec.ofInt IntKind.u8.bits (IntKind.u8.wrap (↑N : Int)) ||| BitVec.ofInt IntKind.u8.bits (128 : Int)).toNat : Int) = ((UInt8.ofNat (N % 128 + 128)).toNat : Int) := by
 have h : bits .or .u8 ((N % 256 : Nat) : Int) ((128 : Nat) : Int) = _ := u8_or_nat (N % 256) 128 (by omega) (by omega)
 have e : IntKind.u8.wrap (N : Int) = ((N % 256 : Nat) : Int) := by rw [wrapu8]; omega
 rw [e]
 refine Eq.trans h ?_
 rw [or128 _ (by omega), UInt8.toNat_ofNat']
 omega
theorem byteRem (N : Nat) : IntKind.u8.wrap (IntKind.u8.wrap ((↑N : Int).tmod (128 : Int)) + (128 : Int)) = ((UInt8.ofNat (N % 128 + 128)).toNat : Int) := by
 rw [wrapu8, wrapu8, UInt8.toNat_ofNat', Int.tmod_eq_emod_of_nonneg (by omega)]
 omega
theorem byteLast {N : Nat} (_h : N < 128) : IntKind.u8.wrap (N : Int) = ((UInt8.ofNat N).toNat : Int) := by
 rw [wrapu8, UInt8.toNat_ofNat']; omega
theorem fdiv128 (N : Nat) : (N : Int).fdiv 128 = ((N / 128 : Nat) : Int) := by
 rw [Int.fdiv_eq_ediv_of_nonneg _ (by omega)]; omega
theorem tdiv128 {N : Nat} (h : N < 18446744073709551616) : IntKind.u64.wrap ((N : Int).tdiv 128) = ((N / 128 : Nat) : Int) := by
 rw [Int.tdiv_eq_ediv_of_nonneg (by omega), wrapu64]; omega
theorem bytesL_append (a b : List UInt8) : bytesL (a ++ b) = bytesL a ++ bytesL b := by simp [bytesL]
theorem bytesL_one (c : UInt8) : bytesL [c] = [.int .u8 c.toNat] := rfl
theorem bytesL_eq_nil {l : List UInt8} : bytesL l = [] ↔ l = [] := by simp [bytesL]
theorem uintL_len : ∀ (f n : Nat), n < 2 ^ (7 * f + 1) → (uintL n).length ≤ f + 1
 | f, n, hn => by
  by_cases h : n < 128
  ·rw [uintL_small h]; simp
  ·match f, hn with
   | 0, hn => simp at hn; omega
   | f + 1, hn =>
    have e2 : 2 ^ (7 * (f + 1) + 1) = 128 * 2 ^ (7 * f + 1) := by rw [show 7 * (f + 1) + 1 = 7 * f + 1 + 7 by omega, Nat.pow_add]; omega
    have := uintL_len f (n / 128) (by omega)
    rw [uintL_big h]; simp; omega
theorem uintL_len10 {n : Nat} (h : n < 18446744073709551616) : (uintL n).length ≤ 10 := uintL_len 9 n (by simpa using h)
theorem p62 (m : Int) (N : Nat) (bs : List UInt8) (hs : strOk bs) (hN : N < 18446744073709551616) : PureOk PQ (GQ m) Xwi (tbl []) (itbl []) (a62 bs N) [] 62 [bytesA bs, .int .u64 (N : Nat)] (ownR (bs ++ uintL N)) := by
 have hs' : bs.length ≤ 2000000 := hs
 have h10 := uintL_len10 hN
 constructor
 generalize hr : bs ++ uintL N = r
 rw [w62]; unfold w62c3 w62c2 w62c1
 have htk : List.drop 0 (List.take bs.length (bytesL bs)) = bytesL bs := by rw [List.drop_zero]; exact List.take_of_length_le (by simp [bytesL])
 simp only [htk, Int.toNat_natCast, valsAre_iff, stIs_iff, retIs_iff, Prod.mk.injEq, AV.int.injEq, AV.sl.injEq, List.cons.injEq, St.mk.injEq, and_true, true_and, true_or, decide_eq_true_eq, decide_eq_false_iff_not, ge_iff_le, fdiv128, byteOr, Option.isSome_some, Nat.zero_le, Nat.le_refl, Int.le_refl, ne_eq, not_true_eq_false, false_imp_iff, Int.reduceLE, List.length_append, List.length_map, List.length_cons, List.length_nil, forall_const, Nat.zero_add, Int.natCast_inj]
 refine ⟨by omega, fun h => ⟨by omega, ⟨⟨bs ++ [UInt8.ofNat (N % 128 + 128)], N / 128⟩, ⟨rfl, by rw [bytesL_append, bytesL_one]⟩, by simp, ?_⟩, fun x hx => ⟨fun h2 => ⟨by have := hx.c; omega, ⟨x.pre ++ [UInt8.ofNat (x.n % 128 + 128)], x.n / 128⟩, ⟨rfl, by rw [bytesL_append, bytesL_one]⟩, by simp, ?_, by simp only []; omega⟩, fun h2 => ⟨by have := hx.c; omega, ?_, ?_⟩⟩⟩, fun h => ⟨by omega, ?_, ?_⟩⟩
 ·refine ⟨?_, by simp only []; omega, ?_⟩
  ·rw [uintL_big (n := N) (by omega)]; simp
  ·rw [uintL_big (n := N) (by omega)]; simp; omega
 ·have hb := uintL_big (n := x.n) (by omega)
  refine ⟨?_, by simp only []; have := hx.n; omega, ?_⟩
  ·rw [← hx.e, hb]; simp
  ·have := hx.c; rw [hb] at this; simp at this ⊢; omega
 ·rw [byteLast (by omega), ← hr, ← hx.e, uintL_small (by omega), bytesL_append, bytesL_one]
 ·rw [← hr, ← hx.e, uintL_small (by omega)]; simp
 ·rw [byteLast (by omega), ← hr, uintL_small (by omega), bytesL_append, bytesL_one]
 ·rw [← hr, uintL_small (by omega)]; simp
theorem p121 (m : Int) (N : Nat) (hN : N < 18446744073709551616) : PureOk PQ (GQ m) Xwi (tbl []) (itbl []) (a121 N) [] 121 [.int .u64 (N : Nat)] (ownR (uintL N)) := by
 have h10 := uintL_len10 hN
 constructor
 generalize hr : uintL N = r
 rw [w121]
 simp only [valsAre_iff, stIs_iff, retIs_iff, Prod.mk.injEq, AV.int.injEq, AV.sl.injEq, List.cons.injEq, St.mk.injEq, and_true, true_and, true_or, decide_eq_true_eq, decide_eq_false_iff_not, ge_iff_le, byteRem, List.length_append, List.length_map, List.length_cons, List.length_nil, Nat.zero_add, ne_eq, Int.reduceEq, not_false_eq_true]
 refine ⟨⟨⟨[], N⟩, ⟨rfl, rfl⟩, rfl, rfl, Nat.le_refl _, by simp⟩, fun x hx => ⟨fun h2 => ⟨by have := hx.c; simp at this; omega, ⟨x.pre ++ [UInt8.ofNat (x.n % 128 + 128)], x.n / 128⟩, ⟨tdiv128 (by have := hx.n; omega), by rw [bytesL_append, bytesL_one]⟩, by simp, ?_, by simp only []; omega⟩, fun h2 => ⟨by have := hx.c; simp at this; omega, ?_, ?_⟩⟩⟩
 ·have hb := uintL_big (n := x.n) (by omega)
  refine ⟨?_, by simp only []; have := hx.n; omega, ?_⟩
  ·rw [← hx.e, hb]; simp
  ·have := hx.c; rw [hb] at this; simp at this ⊢; omega
 ·have he := hx.e; rw [List.nil_append] at he
  rw [byteLast (by omega), ← hr, ← he, uintL_small (by omega), bytesL_append, bytesL_one]
 ·have he := hx.e; rw [List.nil_append] at he
  rw [← hr, ← he, uintL_small (by omega)]; simp
theorem sl_ok {l : List UInt8} : (1 = 1 ∨ bytesL l = []) := .inl rfl
theorem s62_at {bs : List UInt8} {n : Int} {o : Own} (h : strOk bs) (hn : u64Ok n) : s62 [.sl 1 (bytesL bs) o, .int .u64 n] = some (ownR (bs ++ uintL n.toNat)) := by
 simp only [s62, sBytesNum, onBytes, unBytes_mk, true_or, true_and, if_true, h, hn]
theorem s121_at {n : Int} (hn : u64Ok n) : s121 [.int .u64 n] = some (ownR (uintL n.toNat)) := by
 simp only [s121, if_true, hn]
theorem zig_lt {n : Int} (h : i64W n) : zig n < 18446744073709551616 := by
 obtain ⟨h0, h1⟩ := h
 unfold zig; split <;> omega
theorem bv_neg (x : Nat) (hx : x < 18446744073709551616) : (BitVec.ofNat 64 x ^^^ BitVec.allOnes 64).toNat = 18446744073709551615 - x := by
 rw [BitVec.xor_allOnes, BitVec.toNat_not, BitVec.toNat_ofNat]
 omega
theorem zig_bits {n : Int} (h : i64W n) : IntKind.u64.wrap (↑(BitVec.ofInt IntKind.u64.bits (IntKind.u64.wrap (IntKind.u64.wrap n * (2 : Int) ^ min (Int.toNat (1 : Int)) IntKind.u64.bits)) ^^^
                          BitVec.ofInt IntKind.u64.bits (IntKind.u64.wrap (n.fdiv ((2 : Int) ^ min (Int.toNat (63 : Int)) IntKind.i64.bits)))).toNat : Int) = (zig n : Int) := by
  obtain ⟨h0, h1⟩ := h
  have e1 : IntKind.u64.bits = 64 := rfl
  have e2 : IntKind.i64.bits = 64 := rfl
  rw [e1, e2, show min (Int.toNat 1) 64 = 1 by decide, show min (Int.toNat 63) 64 = 63 by decide]
  rw [wrapu64, wrapu64, wrapu64, wrapu64, Int.pow_succ, Int.pow_zero, Int.one_mul]
  have e3 : (2 : Int) ^ 63 = 9223372036854775808 := by decide
  rw [e3, Int.fdiv_eq_ediv_of_nonneg _ (by omega)]
  by_cases hn : 0 ≤ n
  · have e4 : n / 9223372036854775808 % 18446744073709551616 = 0 := by omega
    have e5 : n % 18446744073709551616 * 2 % 18446744073709551616 = ((2 * n).toNat : Int) := by omega
    rw [e4, e5]
    have : BitVec.ofInt 64 (0 : Int) = 0#64 := by decide
    rw [this, BitVec.xor_zero, BitVec.ofInt_natCast, BitVec.toNat_ofNat]
    unfold zig; rw [if_pos hn]; omega
  · have e4 : n / 9223372036854775808 % 18446744073709551616 = 18446744073709551615 := by omega
    have e5 : n % 18446744073709551616 * 2 % 18446744073709551616 = ((2 * n + 18446744073709551616).toNat : Int) := by omega
    rw [e4, e5]
    have : BitVec.ofInt 64 (18446744073709551615 : Int) = BitVec.allOnes 64 := by decide
    rw [this, BitVec.ofInt_natCast, bv_neg _ (by omega)]
    unfold zig; rw [if_neg hn]; omega
theorem zig_ref1 {n : Int} (h : i64W n) (hn : 0 ≤ n) : IntKind.u64.wrap ((2 : Int) * IntKind.u64.wrap n) = (zig n : Int) := by
 obtain ⟨h0, h1⟩ := h
 rw [wrapu64, wrapu64]; unfold zig; rw [if_pos hn]; omega
theorem wrapi64 (n : Int) : IntKind.i64.wrap n = (n + 9223372036854775808) % 18446744073709551616 - 9223372036854775808 := by
 simp only [IntKind.wrap, IntKind.bits, IntKind.signed]
 simp
 split <;> omega
theorem zig_ref2 {n : Int} (h : i64W n) (hn : ¬ 0 ≤ n) : IntKind.u64.wrap (IntKind.u64.wrap ((2 : Int) * IntKind.u64.wrap (IntKind.i64.wrap ((0 : Int) - IntKind.i64.wrap (n + (1 : Int))))) + (1 : Int)) = (zig n : Int) := by
 obtain ⟨h0, h1⟩ := h
 rw [wrapu64, wrapu64, wrapu64, wrapi64, wrapi64]; unfold zig; rw [if_neg hn]; omega
theorem wrapu64_len {s : List UInt8} (h : strOk s) : IntKind.u64.wrap (s.length : Int) = (s.length : Int) := by
 have : s.length ≤ 2000000 := h
 rw [wrapu64]; omega
theorem u64Ok_nat {n : Nat} (h : n < 18446744073709551616) : u64Ok (n : Int) := ⟨by omega, by omega⟩
theorem p25 (m n : Int) (bs : List UInt8) (hs : strOk bs) (hn : i64W n) : PureOk PQ (GQ m) Xwi (tbl [(62, s62)]) (itbl []) nAn [] 25 [bytesA bs, .int .i64 n] (ownR (bs ++ uintL (zig n))) := by
 constructor
 generalize hr : bs ++ uintL (zig n) = r
 rw [w25, zig_bits hn, tbl_hit, s62_at hs (u64Ok_nat (zig_lt hn)), Int.toNat_natCast, hr]
 exact ⟨by omega, by omega, bytesL r, ⟨by simp [ownR]⟩, rfl, ⟨by simp []⟩⟩
theorem p26 (m : Int) (bs s : List UInt8) (hs : strOk bs) (hn : strOk s) : PureOk PQ (GQ m) Xwi (tbl [(62, s62)]) (itbl []) nAn [] 26 [bytesA bs, .str s] (ownR (bs ++ textL s)) := by
 have h1 : s.length ≤ 2000000 := hn
 have h2 : bs.length ≤ 2000000 := hs
 have h3 := uintL_len10 (n := s.length) (by omega)
 constructor
 rw [w26, wrapu64_len hn, tbl_hit, s62_at hs (u64Ok_nat (by omega)), Int.toNat_natCast]
 refine ⟨bytesL (bs ++ uintL s.length), ⟨by simp [ownR]⟩, sl_ok, ?_, rfl, ?_, ⟨?_⟩⟩
 ·simp [bytesL]; omega
 ·simp [bytesL]; omega
 ·simp [bytesL, textL]; omega
theorem p122 (m n : Int) (hn : i64W n) : PureOk PQ (GQ m) Xwi (tbl [(121, s121)]) (itbl []) nAn [] 122 [.int .i64 n] (ownR (uintL (zig n))) := by
 constructor
 generalize hr : uintL (zig n) = r
 rw [w122]
 simp only [decide_eq_true_eq, decide_eq_false_iff_not, ge_iff_le]
 refine ⟨fun h => ?_, fun h => ?_⟩
 ·rw [zig_ref1 hn h, tbl_hit, s121_at (u64Ok_nat (zig_lt hn)), Int.toNat_natCast, hr]
  exact ⟨bytesL r, ⟨by simp [ownR]⟩, trivial, ⟨by simp []⟩⟩
 ·rw [zig_ref2 hn h, tbl_hit, s121_at (u64Ok_nat (zig_lt hn)), Int.toNat_natCast, hr]
  exact ⟨bytesL r, ⟨by simp [ownR]⟩, trivial, ⟨by simp []⟩⟩
theorem p120 (m : Int) (s : List UInt8) (hn : strOk s) : PureOk PQ (GQ m) Xwi (tbl [(121, s121)]) (itbl []) nAn [] 120 [.str s] (ownR (textL s)) := by
 have h1 : s.length ≤ 2000000 := hn
 have h3 := uintL_len10 (n := s.length) (by omega)
 constructor
 rw [w120, wrapu64_len hn, tbl_hit, s121_at (u64Ok_nat (by omega)), Int.toNat_natCast]
 refine ⟨bytesL (uintL s.length), ⟨by simp [ownR]⟩, sl_ok, ?_, rfl, ?_, ⟨?_⟩⟩
 ·simp [bytesL]; omega
 ·simp [bytesL]
 ·simp [bytesL, textL]
theorem lax_bytes {l : List UInt8} {o : Own} : RetLax (AV.sl 1 (bytesL l) o) (AV.sl 1 (bytesL l) Own.no, []) := ⟨⟨rfl, rfl, .inl rfl⟩, rfl, rfl⟩
theorem wk1 {sz : Nat} {es : List AV} {o : Own} {bs : List UInt8} (hz : sz = 1 ∨ es = []) (hb : unBytes es = some bs) : wkA 1 (.sl sz es o) = bytesA bs := by
 obtain rfl := unBytes_some hb
 rcases hz with rfl | hz
 ·cases bs <;> rfl
 ·rw [bytesL_eq_nil] at hz; subst hz; rfl
theorem sBN_of {X : Shapes} {R : Callee} {C : CCallee} {m : Int} {g : FuncId} {k : IntKind} {p : Int → Prop} [∀ n, Decidable (p n)] {f : List UInt8 → Int → AV × List (Nat × TypeId)} (hR : CalleeOk PQ (GQ m) R) (hC : ICalleeOk PQ (GQ m) (lowC C))
  (h : ∀ bs n, strOk bs → p n → ∃ A, PureOk PQ (GQ m) X R C A [] g [bytesA bs, .int k n] (f bs n)) : SpecOk PQ (GQ m) g (sBytesNum k p f) := spec_ofW (X := X) (m := []) [1] mixedQ hR hC fun args r h' => by
 unfold sBytesNum onBytes at h'
 split at h'
 ·split at h'
  ·rename_i hc
   obtain ⟨hz, rfl⟩ := hc
   split at h'
   ·rename_i bs hb
    dsimp only at h'
    split at h'
    ·rename_i hp
     injection h' with h'; subst h'
     simp only [wkL, wk1 hz hb]
     exact h _ _ hp.1 hp.2
    ·cases h'
   ·cases h'
  ·cases h'
 ·cases h'
theorem o62 (m : Int) : SpecOk PQ (GQ m) 62 s62 := sBN_of (X := Xwi) tbl_nil itbl_nil fun bs n hs hn => ⟨a62 bs n.toNat, by
 obtain ⟨N, rfl⟩ : ∃ N : Nat, n = N := ⟨n.toNat, by have := hn.1; omega⟩
 exact p62 m N bs hs (by have := hn.2; omega)⟩
theorem o25 (m : Int) : SpecOk PQ (GQ m) 25 s25 := sBN_of (X := Xwi) (tbl_cons (o62 m) tbl_nil) itbl_nil fun bs n hs hn => ⟨nAn, p25 m n bs hs hn⟩
theorem o26 (m : Int) : SpecOk PQ (GQ m) 26 s26 := spec_ofW (X := Xwi) (m := []) [1] mixedQ (tbl_cons (o62 m) tbl_nil) itbl_nil fun args r h' => by
 unfold s26 onBytes at h'
 split at h'
 ·split at h'
  ·rename_i hz
   split at h'
   ·rename_i bs hb
    dsimp only at h'
    split at h'
    ·rename_i hp
     injection h' with h'; subst h'
     simp only [wkL, wk1 hz hb]
     exact ⟨nAn, p26 m _ _ hp.1 hp.2⟩
    ·cases h'
   ·cases h'
  ·cases h'
 ·cases h'
theorem o121 (m : Int) : SpecOk PQ (GQ m) 121 s121 := spec_of (X := Xwi) (m := []) mixedQ tbl_nil itbl_nil fun args r h => by
 unfold s121 at h
 split at h
 ·split at h
  ·rename_i n hn
   injection h with h; subst h
   obtain ⟨N, rfl⟩ : ∃ N : Nat, n = N := ⟨n.toNat, by have := hn.1; omega⟩
   exact ⟨a121 N, p121 m N (by have := hn.2; omega)⟩
  ·cases h
 ·cases h
theorem o122 (m : Int) : SpecOk PQ (GQ m) 122 s122 := spec_of (X := Xwi) (m := []) mixedQ (tbl_cons (o121 m) tbl_nil) itbl_nil fun args r h => by
 unfold s122 at h
 split at h
 ·split at h
  ·rename_i hn
   injection h with h; subst h
   exact ⟨nAn, p122 m _ hn⟩
  ·cases h
 ·cases h
theorem o120 (m : Int) : SpecOk PQ (GQ m) 120 s120 := spec_of (X := Xwi) (m := []) mixedQ (tbl_cons (o121 m) tbl_nil) itbl_nil fun args r h => by
 unfold s120 at h
 split at h
 ·split at h
  ·rename_i hn
   injection h with h; subst h
   exact ⟨nAn, p120 m _ hn⟩
  ·cases h
 ·cases h
def shIntR : Sh × Option TypeId := (.tup [.one (.int .i64), .one (.int .i64), .one (.int .i64)], none)
def shUintR : Sh × Option TypeId := (.tup [.one (.int .u64), .one (.int .i64), .one (.int .i64)], none)
def shTextR : Sh × Option TypeId := (.tup [.one .str, .one (.int .i64), .one (.int .i64)], none)
def Xwo : Shapes := fun f => match f with
 | 68 | 118 => some shIntR
 | 35 | 117 => some shUintR
 | 34 | 116 => some shTextR
 | f => Xwi f
def leftI (bs : List UInt8) (at_ : Int) : Int := if at_ < 0 ∨ (bs.length : Int) < at_ then -1 else bs.length - at_
def sintA (bs : List UInt8) (at_ : Int) : Int × Int × Int := if (uintA bs at_).2.2 ≠ 0 then (0, 0, (uintA bs at_).2.2) else (unzig (uintA bs at_).1.toNat, (uintA bs at_).2.1, 0)
def sRd (f : List UInt8 → Int → AV) : Spec := fun args => match args with
 | [.sl sz es _, .int .i64 at_] => if sz = 1 ∨ es = [] then onBytes es fun bs => if strOk bs then some (f bs at_, []) else none else none
 | _ => none
def wInt (x : Int × Int × Int) : AV := .tup [.int .i64 x.1, .int .i64 x.2.1, .int .i64 x.2.2]
def rUint (x : Int × Int × Int) : AV := .tup [.int .u64 x.1, .int .i64 x.2.1, .int .i64 x.2.2]
def rText (x : List UInt8 × Int × Int) : AV := .tup [.str x.1, .int .i64 x.2.1, .int .i64 x.2.2]
def s159 : Spec := sRd fun bs at_ => .int .i64 (leftI bs at_)
def s68 : Spec := sRd fun bs at_ => wInt (sintA bs at_)
def s117 : Spec := sRd fun bs at_ => rUint (uintA bs at_)
def s116 : Spec := sRd fun bs at_ => rText (textA bs at_)
end Go.Abs
namespace Go.Abs
open Go.Proofs
theorem w68 (m at_ : Int) (bs : List UInt8) (r : AV) : (pureW PQ (GQ m) Xwo (tbl [(35, sReadUint)]) (itbl []) nAn [] 68 [bytesA bs, .int .i64 at_] (r, [])) =
(∃ (n : Int), ∃ (n_1 : Int), ∃ (n_2 : Int), CallIs (tbl [(35, sReadUint)] 35 [AV.sl 1 (bytesL bs) Own.no, I6 at_]) (AV.tup [AV.int IntKind.u64 n, I6 n_1, I6 n_2]) [] ∧ ((n_2 != (0 : Int)) = true → RetIs (AV.tup [I6 0, I6 0, I6 n_2]) [] (r, [])) ∧ ((n_2 != (0 : Int)) = false → (0 : Int) ≤ (1 : Int) ∧ RetIs (AV.tup [I6 (IntKind.i64.wrap (↑(BitVec.ofInt IntKind.i64.bits (IntKind.i64.wrap (n.fdiv ((2 : Int) ^ min (Int.toNat (1 : Int)) IntKind.u64.bits))) ^^^ BitVec.ofInt IntKind.i64.bits (IntKind.i64.wrap ((0 : Int) - IntKind.i64.wrap (IntKind.u64.wrap (↑((fun (x1 x2 : BitVec IntKind.u64.bits) => x1 &&& x2) (BitVec.ofInt IntKind.u64.bits n) (BitVec.ofInt IntKind.u64.bits (1 : Int))).toNat : Int))))).toNat : Int)), I6 n_1, I6 0]) [] (r, []))) := by kernel_rfl
theorem w159 (m at_ : Int) (bs : List UInt8) (r : AV) : (pureW PQ (GQ m) Xwo (tbl []) (itbl []) nAn [] 159 [bytesA bs, .int .i64 at_] (r, [])) =
((decide (at_ < (0 : Int)) = true → RetIs (I6 (-1)) [] (r, [])) ∧ (decide (at_ < (0 : Int)) = false → (decide (at_ > (↑(bytesL bs).length : Int)) = true → RetIs (I6 (-1)) [] (r, [])) ∧ (decide (at_ > (↑(bytesL bs).length : Int)) = false → RetIs (I6 (IntKind.i64.wrap ((↑(bytesL bs).length : Int) - at_))) [] (r, [])))) := by kernel_rfl
theorem w118 (m at_ : Int) (bs : List UInt8) (r : AV) : (pureW PQ (GQ m) Xwo (tbl [(117, s117)]) (itbl []) nAn [] 118 [bytesA bs, .int .i64 at_] (r, [])) =
(∃ (n : Int), ∃ (n_1 : Int), ∃ (n_2 : Int), CallIs (tbl [(117, s117)] 117 [AV.sl 1 (bytesL bs) Own.no, I6 at_]) (AV.tup [AV.int IntKind.u64 n, I6 n_1, I6 n_2]) [] ∧ ((n_2 != (0 : Int)) = true → RetIs (AV.tup [I6 0, I6 0, I6 n_2]) [] (r, [])) ∧ ((n_2 != (0 : Int)) = false → (2 : Int) ≠ (0 : Int) ∧ ((n.tmod (2 : Int) == (1 : Int)) = true → (2 : Int) ≠ (0 : Int) ∧ RetIs (AV.tup [I6 (IntKind.i64.wrap (IntKind.i64.wrap ((0 : Int) - IntKind.i64.wrap (IntKind.u64.wrap (n.tdiv (2 : Int)))) - (1 : Int))), I6 n_1, I6 0]) [] (r, [])) ∧ ((n.tmod (2 : Int) == (1 : Int)) = false → (2 : Int) ≠ (0 : Int) ∧ RetIs (AV.tup [I6 (IntKind.i64.wrap (IntKind.u64.wrap (n.tdiv (2 : Int)))), I6 n_1, I6 0]) [] (r, [])))) := by kernel_rfl
theorem w116 (m at_ : Int) (bs : List UInt8) (r : AV) : (pureW PQ (GQ m) Xwo (tbl [(117, s117)]) (itbl []) nAn [] 116 [bytesA bs, .int .i64 at_] (r, [])) =
(∃ (n : Int), ∃ (n_1 : Int), ∃ (n_2 : Int), CallIs (tbl [(117, s117)] 117 [AV.sl 1 (bytesL bs) Own.no, I6 at_]) (AV.tup [AV.int IntKind.u64 n, I6 n_1, I6 n_2]) [] ∧ ((n_2 != (0 : Int)) = true → RetIs (AV.tup [AV.str [], I6 0, I6 n_2]) [] (r, [])) ∧ ((n_2 != (0 : Int)) = false → (decide (n > IntKind.u64.wrap (IntKind.i64.wrap ((↑(bytesL bs).length : Int) - n_1))) = true → RetIs (AV.tup [AV.str [], I6 0, I6 41]) [] (r, [])) ∧ (decide (n > IntKind.u64.wrap (IntKind.i64.wrap ((↑(bytesL bs).length : Int) - n_1))) = false → (0 : Int) ≤ n_1 ∧ (0 : Int) ≤ IntKind.i64.wrap (n_1 + IntKind.i64.wrap n) ∧ (n_1.toNat ≤ (IntKind.i64.wrap (n_1 + IntKind.i64.wrap n)).toNat ∧ (IntKind.i64.wrap (n_1 + IntKind.i64.wrap n)).toNat ≤ (bytesL bs).length) ∧ ((1 : Nat) = (1 : Nat) ∨ bytesL bs = []) ∧ ((1 : Nat) = (1 : Nat) ∨ List.drop n_1.toNat (List.take (IntKind.i64.wrap (n_1 + IntKind.i64.wrap n)).toNat (bytesL bs)) = []) ∧ ∃ (l : List UInt8), List.mapM byteOf (List.drop n_1.toNat (List.take (IntKind.i64.wrap (n_1 + IntKind.i64.wrap n)).toNat (bytesL bs))) = some l ∧ RetIs (AV.tup [AV.str l, I6 (IntKind.i64.wrap (n_1 + IntKind.i64.wrap n)), I6 0]) [] (r, [])))) := by kernel_rfl
end Go.Abs
namespace Go.Abs
open Go.Proofs Go.Wire
theorem callSome {x : AV × List (Nat × TypeId)} {r : AV} {lv : List (Nat × TypeId)} (h : x = (r, lv)) : CallIs (some x) r lv := ⟨by rw [h]⟩
theorem p159 (m at_ : Int) (bs : List UInt8) (hb : strOk bs) : PureOk PQ (GQ m) Xwo (tbl []) (itbl []) nAn [] 159 [bytesA bs, .int .i64 at_] (.int .i64 (leftI bs at_), []) := by
 have h1 : bs.length ≤ 2000000 := hb
 constructor
 rw [w159]; unfold I6
 simp only [bytesL_length, decide_eq_true_eq, decide_eq_false_iff_not, gt_iff_lt, retIs_iff, Prod.mk.injEq, and_true, AV.int.injEq, true_and, leftI]
 refine ⟨fun h => by rw [if_pos (.inl h)], fun h => ⟨fun h2 => by rw [if_pos (.inr h2)], fun h2 => ?_⟩⟩
 rw [if_neg (by omega)]
 exact wrap64_in (by omega) (by omega)
theorem sReadUint_at {bs : List UInt8} {at_ : Int} {o : Own} (h : strOk bs) : sReadUint [.sl 1 (bytesL bs) o, .int .i64 at_] = some (rUint (uintA bs at_), []) := by
 have h1 : bs.length ≤ 2000000 := h
 have h2 : lenOk bs := by show (bs.length : Int) ≤ _; omega
 simp only [sReadUint, true_or, if_true, unBytes_mk, Option.bind_some, h2, rUint]
theorem sRd_at {f : List UInt8 → Int → AV} {bs : List UInt8} {at_ : Int} {o : Own} (h : strOk bs) : sRd f [.sl 1 (bytesL bs) o, .int .i64 at_] = some (f bs at_, []) := by
 simp only [sRd, onBytes, unBytes_mk, true_or, if_true, h]
theorem uintA_bound {bs : List UInt8} {at_ : Int} : 0 ≤ (uintA bs at_).1 ∧ (uintA bs at_).1 < 18446744073709551616 := by
 unfold uintA
 split
 ·simp
 ·split
  ·simp
  ·rename_i v m h
   have := (uintP_bound _ _ _ _ h).1
   have e : 2 ^ (7 * (10 - 1) + 1) = 18446744073709551616 := by decide
   simp only []
   omega
theorem unzig_bits {v : Nat} (h : v < 18446744073709551616) : IntKind.i64.wrap
                        (↑(BitVec.ofInt IntKind.i64.bits (IntKind.i64.wrap ((v : Int).fdiv ((2 : Int) ^ min (Int.toNat (1 : Int)) IntKind.u64.bits))) ^^^
                                BitVec.ofInt IntKind.i64.bits
                                  (IntKind.i64.wrap
                                    ((0 : Int) -
                                      IntKind.i64.wrap
                                        (IntKind.u64.wrap
                                          (↑(BitVec.ofInt IntKind.u64.bits (v : Int) &&&
                                                  BitVec.ofInt IntKind.u64.bits (1 : Int)).toNat :
                                            Int))))).toNat :
                          Int) = unzig v := by
  have e1 : IntKind.u64.bits = 64 := rfl
  have e2 : IntKind.i64.bits = 64 := rfl
  rw [e1, e2, show min (Int.toNat 1) 64 = 1 by decide, Int.pow_succ, Int.pow_zero, Int.one_mul, Int.fdiv_eq_ediv_of_nonneg _ (by omega)]
  have e3 : (BitVec.ofInt 64 (v : Int) &&& BitVec.ofInt 64 (1 : Int)).toNat = v % 2 := by
    have : BitVec.ofInt 64 (1 : Int) = BitVec.ofNat 64 1 := by decide
    rw [this, BitVec.ofInt_natCast, BitVec.toNat_and, BitVec.toNat_ofNat, BitVec.toNat_ofNat, show 1 % 2 ^ 64 = 1 by decide, Nat.and_one_is_mod]
    omega
  rw [e3]
  have e4 : (v : Int) / 2 = ((v / 2 : Nat) : Int) := by omega
  have e5 : IntKind.i64.wrap ((v / 2 : Nat) : Int) = ((v / 2 : Nat) : Int) := wrap64_in (by omega) (by omega)
  have e6 : IntKind.i64.wrap (IntKind.u64.wrap ((v % 2 : Nat) : Int)) = ((v % 2 : Nat) : Int) := by
    rw [wrapu64]; rw [wrap64_in (by omega) (by omega)]; omega
  rw [e4, e5, e6, BitVec.ofInt_natCast]
  unfold unzig
  rcases Nat.mod_two_eq_zero_or_one v with h0 | h0
  · rw [h0, if_neg (by omega)]
    have : BitVec.ofInt 64 (IntKind.i64.wrap (0 - ((0 : Nat) : Int))) = 0#64 := by decide
    rw [this, BitVec.xor_zero, BitVec.toNat_ofNat, Nat.mod_eq_of_lt (by omega), e5]
  · rw [h0, if_pos rfl]
    have : BitVec.ofInt 64 (IntKind.i64.wrap (0 - ((1 : Nat) : Int))) = BitVec.allOnes 64 := by decide
    rw [this, bv_neg _ (by omega), wrapi64]
    omega
theorem p68 (m at_ : Int) (bs : List UInt8) (hb : strOk bs) : PureOk PQ (GQ m) Xwo (tbl [(35, sReadUint)]) (itbl []) nAn [] 68 [bytesA bs, .int .i64 at_] (wInt (sintA bs at_), []) := by
 constructor
 rw [w68]; unfold I6; rw [tbl_hit, sReadUint_at hb]
 obtain ⟨h0, h1⟩ := uintA_bound (bs := bs) (at_ := at_)
 refine ⟨_, _, _, callSome rfl, ?_, ?_⟩
 all_goals simp only [bne_iff_ne, bne_eq_false_iff_eq, ne_eq]
 ·intro h
  refine ⟨?_⟩
  unfold sintA; rw [if_pos h]; rfl
 ·intro h
  refine ⟨by omega, ⟨?_⟩⟩
  unfold sintA; rw [if_neg (by omega)]
  obtain ⟨v, hv⟩ : ∃ v : Nat, (uintA bs at_).1 = v := ⟨(uintA bs at_).1.toNat, by omega⟩
  rw [hv] at h1 ⊢
  rw [unzig_bits (by omega)]; rfl
theorem p118 (m at_ : Int) (bs : List UInt8) (hb : strOk bs) : PureOk PQ (GQ m) Xwo (tbl [(117, s117)]) (itbl []) nAn [] 118 [bytesA bs, .int .i64 at_] (wInt (sintA bs at_), []) := by
 constructor
 rw [w118]; unfold I6; rw [tbl_hit]
 unfold s117
 rw [sRd_at hb]
 obtain ⟨h0, h1⟩ := uintA_bound (bs := bs) (at_ := at_)
 refine ⟨_, _, _, callSome rfl, ?_, ?_⟩
 all_goals simp only [bne_iff_ne, bne_eq_false_iff_eq, ne_eq, beq_iff_eq, beq_eq_false_iff_ne]
 ·intro h
  refine ⟨?_⟩
  unfold sintA; rw [if_pos h]; rfl
 ·intro h
  obtain ⟨v, hv⟩ : ∃ v : Nat, (uintA bs at_).1 = v := ⟨(uintA bs at_).1.toNat, by omega⟩
  rw [hv] at h1 ⊢
  rw [Int.tmod_eq_emod_of_nonneg (by omega), Int.tdiv_eq_ediv_of_nonneg (by omega)]
  refine ⟨by omega, fun h2 => ⟨by omega, ⟨?_⟩⟩, fun h2 => ⟨by omega, ⟨?_⟩⟩⟩
  ·have e : IntKind.i64.wrap (IntKind.i64.wrap ((0 : Int) - IntKind.i64.wrap (IntKind.u64.wrap ((v : Int) / (2 : Int)))) - (1 : Int)) = -((v / 2 : Nat) : Int) - 1 := by
    rw [wrapi64, wrapi64, wrapi64, wrapu64]; omega
   rw [e]
   unfold sintA unzig; rw [if_neg (by omega), hv, Int.toNat_natCast, if_pos (by omega)]
   rfl
  ·have e : IntKind.i64.wrap (IntKind.u64.wrap ((v : Int) / (2 : Int))) = ((v / 2 : Nat) : Int) := by
    rw [wrapi64, wrapu64]; omega
   rw [e]
   unfold sintA unzig; rw [if_neg (by omega), hv, Int.toNat_natCast, if_neg (by omega)]
   rfl
theorem mapM_byteL : ∀ l : List UInt8, List.mapM byteOf (bytesL l) = some l
 | [] => rfl
 | c :: l => by
  have h := mapM_byteL l
  have hc := c.toNat_lt
  simp only [bytesL, List.map_cons, List.mapM_cons] at h ⊢
  rw [h]
  simp [byteOf]
theorem uintA_ok {bs : List UInt8} {at_ : Int} (h : (uintA bs at_).2.2 = 0) : ∃ a v m : Nat, at_ = a ∧ a ≤ bs.length ∧ uintP 10 (bs.drop a) = .ok (v, m) ∧ uintA bs at_ = ((v : Int), (a : Int) + m, 0) ∧ a + m ≤ bs.length := by
 have h' := h
 unfold uintA at h
 split at h
 ·cases h
 ·rename_i hb
  refine ⟨at_.toNat, ?_⟩
  split at h
  ·rename_i x hx
   exfalso
   simp only at h
   subst h
   have : ∀ (f : Nat) (l : List UInt8), uintP f l ≠ .error 0 := by
    intro f
    induction f with
    | zero => intro l h; simp [uintP] at h
    | succ f ih =>
     intro l h
     cases l with
     | nil => simp [uintP] at h
     | cons c t =>
      rw [uintP] at h
      split at h
      ·split at h
       ·cases h
       ·cases h
      ·cases hr : uintP f t with
       | error y => rw [hr] at h; simp only [Except.error.injEq] at h; subst h; exact ih t hr
       | ok vm => rw [hr] at h; cases h
   exact this _ _ hx
  ·rename_i v m hx
   obtain ⟨_, _, _, h4⟩ := uintP_bound _ _ _ _ hx
   rw [List.length_drop] at h4
   refine ⟨v, m, by omega, by omega, hx, ?_, by omega⟩
   unfold uintA
   rw [if_neg hb, hx]
   simp only [Prod.mk.injEq, true_and, and_true]
   omega
theorem p116 (m at_ : Int) (bs : List UInt8) (hb : strOk bs) : PureOk PQ (GQ m) Xwo (tbl [(117, s117)]) (itbl []) nAn [] 116 [bytesA bs, .int .i64 at_] (rText (textA bs at_), []) := by
 have hb' : bs.length ≤ 2000000 := hb
 constructor
 rw [w116]; unfold I6; rw [tbl_hit]
 unfold s117
 rw [sRd_at hb]
 obtain ⟨h0, h1⟩ := uintA_bound (bs := bs) (at_ := at_)
 refine ⟨_, _, _, callSome rfl, ?_, ?_⟩
 all_goals simp only [bne_iff_ne, bne_eq_false_iff_eq, ne_eq, decide_eq_true_eq, decide_eq_false_iff_not, gt_iff_lt, bytesL_length]
 ·intro h
  refine ⟨?_⟩
  unfold textA
  unfold uintA at h ⊢
  by_cases hat : at_ < 0 ∨ (bs.length : Int) < at_
  ·rw [if_pos hat, if_pos hat]; rfl
  ·rw [if_neg hat] at h
   rw [if_neg hat, if_neg hat]
   unfold Z05.textR
   cases hu : uintP 10 (bs.drop at_.toNat) with
   | error x => rfl
   | ok vm => rw [hu] at h; exact absurd rfl h
 ·intro h
  obtain ⟨a, v, q, rfl, ha, hu, he, hq⟩ := uintA_ok h
  rw [he]
  have hv : (v : Int) < 18446744073709551616 := by rw [he] at h1; exact h1
  have e1 : IntKind.u64.wrap (IntKind.i64.wrap ((bs.length : Int) - ((a : Int) + q))) = (bs.length : Int) - (a + q) := by
   rw [wrap64_in (by omega) (by omega), wrapu64]; omega
  simp only [e1]
  have ht : textA bs a = if bs.length < a + q + v then ([], 0, 41) else ((bs.drop (a + q)).take v, ((a + q + v : Nat) : Int), 0) := by
   unfold textA
   rw [if_neg (by omega), Int.toNat_natCast]
   unfold Z05.textR
   rw [hu]
   by_cases hlt : bs.length < a + q + v
   ·simp only [if_pos hlt]
   ·simp only [if_neg hlt]
  refine ⟨fun h2 => ⟨?_⟩, fun h2 => ?_⟩
  ·rw [ht, if_pos (by omega)]; rfl
  ·have e2 : IntKind.i64.wrap ((a : Int) + q + IntKind.i64.wrap (v : Int)) = ((a + q + v : Nat) : Int) := by
    rw [wrap64_in (n := (v : Int)) (by omega) (by omega), wrap64_in (by omega) (by omega)]; omega
   rw [e2]
   have e3 : List.drop ((a : Int) + (q : Int)).toNat (List.take (((a + q + v : Nat) : Int)).toNat (bytesL bs)) = bytesL ((bs.drop (a + q)).take v) := by
    rw [show ((a : Int) + (q : Int)).toNat = a + q by omega, Int.toNat_natCast]
    simp only [bytesL, List.map_take, List.map_drop]
    rw [List.drop_take]
    congr 1
    omega
   rw [e3]
   refine ⟨by omega, by omega, by omega, .inl trivial, .inl trivial, _, mapM_byteL _, ⟨?_⟩⟩
   rw [ht, if_neg (by omega)]; rfl
def hornL : List UInt8 → Nat
 | [] => 0
 | c :: l => hornL l * 128 + c.toNat % 128
def fewN (bs : List UInt8) (a : Nat) : Nat := min (bs.length - a) 10
def atB (bs : List UInt8) (i : Nat) : Nat := (bs.getD i 0).toNat
structure E117 where
 e : Int
 i : Int
structure I117 (bs : List UInt8) (a : Nat) (x : E117) : Prop where
 i0 : -1 ≤ x.i
 i1 : x.i < fewN bs a
 c : (x.e = -1 ∧ ∀ j : Nat, x.i < j → j < fewN bs a → 128 ≤ atB bs (a + j)) ∨ (x.i < x.e ∧ x.e < fewN bs a ∧ atB bs (a + x.e.toNat) < 128 ∧ ∀ j : Nat, x.i < j → j < x.e → 128 ≤ atB bs (a + j))
structure N117 where
 e : Nat
 n : Nat
 i : Int
structure J117 (bs : List UInt8) (a : Nat) (x : N117) : Prop where
 e : x.e < fewN bs a
 l : atB bs (a + x.e) < 128
 b : ∀ j : Nat, j < x.e → 128 ≤ atB bs (a + j)
 g : x.e = 9 → atB bs (a + 9) ≤ 1
 i0 : -1 ≤ x.i
 i1 : x.i ≤ x.e
 n : x.n = hornL (((bs.drop a).take (x.e + 1)).drop (x.i + 1).toNat)
def a117 (bs : List UInt8) (at_ : Int) : Anns := ⟨fun q => match q with
 | 7 => some { α := E117, slots := [0, 1, 7, 9, 10], nb := 0, vals := fun x => [bytesA bs, .int .i64 at_, .int .i64 (leftI bs at_), .int .i64 x.e, .int .i64 x.i], sS := fun _ => ⟨[], []⟩, I := I117 bs at_.toNat, μ := fun x => (x.i + 1).toNat }
 | 17 => some { α := N117, slots := [0, 1, 9, 11, 12], nb := 0, vals := fun x => [bytesA bs, .int .i64 at_, .int .i64 x.e, .int .u64 x.n, .int .i64 x.i], sS := fun _ => ⟨[], []⟩, I := J117 bs at_.toNat, μ := fun x => (x.i + 1).toNat }
 | 1000013 => some { α := E117, slots := [0, 1, 9], nb := 0, vals := fun x => [bytesA bs, .int .i64 at_, .int .i64 x.e], sS := fun _ => ⟨[], []⟩, I := fun x => I117 bs at_.toNat x ∧ x.i = -1 ∧ (x.e < 0 → 10 ≤ leftI bs at_), μ := fun _ => 0 }
 | 1000015 => some { α := Nat, slots := [0, 1, 9], nb := 0, vals := fun e => [bytesA bs, .int .i64 at_, .int .i64 e], sS := fun _ => ⟨[], []⟩, I := fun e => J117 bs at_.toNat ⟨e, 0, e⟩ ∧ (0 < e → atB bs (at_.toNat + e) ≠ 0), μ := fun _ => 0 }
 | _ => none, nA⟩
end Go.Abs
namespace Go.Abs
open Go.Proofs
abbrev w117c4 := AV.tup [AV.int IntKind.u64 (0 : Int), AV.int IntKind.i64 (0 : Int), AV.int IntKind.i64 (3 : Int)]
abbrev w117c5 (bs : List UInt8) (at_ : Int) (x : E117) : List AV := [AV.sl 1 (bytesL bs) Own.no, AV.int IntKind.i64 at_, AV.int IntKind.i64 x.e]
abbrev w117c1 (x : E117) (at_ : Int) (bs : List UInt8) (_n : Int) (r : AV) : Prop := decide (x.e > (0 : Int)) = true → ((0 : Int) ≤ IntKind.i64.wrap (at_ + x.e) ∧ IntKind.i64.wrap (at_ + x.e) < (↑(bytesL bs).length : Int)) ∧ ∃ (n : Int), takeAt PQ 5 (bytesL bs) (IntKind.i64.wrap (at_ + x.e)).toNat 0 = some (AV.int IntKind.u8 n) ∧ ((n == (0 : Int)) = true → RetIs w117c4 [] (r, [])) ∧ ((n == (0 : Int)) = false → ∃ (y : Nat), ValsAre (w117c5 bs at_ x) [AV.sl 1 (bytesL bs) Own.no, AV.int IntKind.i64 at_, AV.int IntKind.i64 (↑y : Int)] ∧ StIs { boxes := [], live := [] } { boxes := [], live := [] } ∧ (J117 bs at_.toNat { e := y, n := (0 : Nat), i := (↑y : Int) } ∧ ((0 : Nat) < y → atB bs (at_.toNat + y) ≠ (0 : Nat))) ∧ True)
abbrev w117c2 (x : E117) (bs : List UInt8) (at_ : Int) (_n : Int) : Prop := decide (x.e > (0 : Int)) = false → ∃ (y : Nat), ValsAre (w117c5 bs at_ x) [AV.sl 1 (bytesL bs) Own.no, AV.int IntKind.i64 at_, AV.int IntKind.i64 (↑y : Int)] ∧ StIs { boxes := [], live := [] } { boxes := [], live := [] } ∧ (J117 bs at_.toNat { e := y, n := (0 : Nat), i := (↑y : Int) } ∧ ((0 : Nat) < y → atB bs (at_.toNat + y) ≠ (0 : Nat))) ∧ True
abbrev w117c3 (bs : List UInt8) (at_ : Int) (y : E117) : List AV := [AV.sl 1 (bytesL bs) Own.no, I6 at_, I6 (leftI bs at_), I6 y.e, I6 y.i]
theorem w117 (m at_ : Int) (bs : List UInt8) (r : AV) : (pureW PQ (GQ m) Xwo (tbl [(159, s159)]) (itbl []) (a117 bs at_) [] 117 [bytesA bs, .int .i64 at_] (r, [])) =
(∃ (n : Int), CallIs (tbl [(159, s159)] 159 [AV.sl 1 (bytesL bs) Own.no, I6 at_]) (I6 n) [] ∧ (decide (n < (0 : Int)) = true → RetIs (AV.tup [AV.int IntKind.u64 0, I6 0, I6 1]) [] (r, [])) ∧ (decide (n < (0 : Int)) = false → (∃ (y : E117), ValsAre [AV.sl 1 (bytesL bs) Own.no, I6 at_, I6 n, I6 (-1), I6 (IntKind.i64.wrap (min n (10 : Int) - (1 : Int)))] (w117c3 bs at_ y) ∧ StIs { boxes := [], live := [] } { boxes := [], live := [] } ∧ I117 bs at_.toNat y ∧ True) ∧ ∀ (x : E117), I117 bs at_.toNat x → (decide (x.i ≥ (0 : Int)) = true → ((0 : Int) ≤ IntKind.i64.wrap (at_ + x.i) ∧ IntKind.i64.wrap (at_ + x.i) < (↑(bytesL bs).length : Int)) ∧ ∃ (n : Int), takeAt PQ 5 (bytesL bs) (IntKind.i64.wrap (at_ + x.i)).toNat 0 = some (AV.int IntKind.u8 n) ∧ (decide (n < (128 : Int)) = true → ∃ (y : E117), ValsAre [AV.sl 1 (bytesL bs) Own.no, I6 at_, I6 (leftI bs at_), I6 x.i, I6 (IntKind.i64.wrap (x.i - (1 : Int)))] (w117c3 bs at_ y) ∧ StIs { boxes := [], live := [] } { boxes := [], live := [] } ∧ I117 bs at_.toNat y ∧ (y.i + (1 : Int)).toNat < (x.i + (1 : Int)).toNat) ∧ (decide (n < (128 : Int)) = false → ∃ (y : E117), ValsAre [AV.sl 1 (bytesL bs) Own.no, I6 at_, I6 (leftI bs at_), I6 x.e, I6 (IntKind.i64.wrap (x.i - (1 : Int)))] (w117c3 bs at_ y) ∧ StIs { boxes := [], live := [] } { boxes := [], live := [] } ∧ I117 bs at_.toNat y ∧ (y.i + (1 : Int)).toNat < (x.i + (1 : Int)).toNat)) ∧ (decide (x.i ≥ (0 : Int)) = false → ((decide (x.e < (0 : Int)) = true → (decide (leftI bs at_ < (10 : Int)) = true → RetIs (AV.tup [AV.int IntKind.u64 0, I6 0, I6 41]) [] (r, [])) ∧ (decide (leftI bs at_ < (10 : Int)) = false → ∃ (y : E117), ValsAre (w117c5 bs at_ x) [AV.sl 1 (bytesL bs) Own.no, I6 at_, I6 y.e] ∧ StIs { boxes := [], live := [] } { boxes := [], live := [] } ∧ (I117 bs at_.toNat y ∧ y.i = (-1 : Int) ∧ (y.e < (0 : Int) → (10 : Int) ≤ leftI bs at_)) ∧ True)) ∧ (decide (x.e < (0 : Int)) = false → ∃ (y : E117), ValsAre (w117c5 bs at_ x) [AV.sl 1 (bytesL bs) Own.no, I6 at_, I6 y.e] ∧ StIs { boxes := [], live := [] } { boxes := [], live := [] } ∧ (I117 bs at_.toNat y ∧ y.i = (-1 : Int) ∧ (y.e < (0 : Int) → (10 : Int) ≤ leftI bs at_)) ∧ True)) ∧ ∀ (x : E117), I117 bs at_.toNat x ∧ x.i = (-1 : Int) ∧ (x.e < (0 : Int) → (10 : Int) ≤ leftI bs at_) → True → ((decide (x.e < (0 : Int)) = true → RetIs w117c4 [] (r, [])) ∧ (decide (x.e < (0 : Int)) = false → ((x.e == (9 : Int)) = true → ((0 : Int) ≤ IntKind.i64.wrap (at_ + (9 : Int)) ∧ IntKind.i64.wrap (at_ + (9 : Int)) < (↑(bytesL bs).length : Int)) ∧ ∃ (n : Int), takeAt PQ 5 (bytesL bs) (IntKind.i64.wrap (at_ + (9 : Int))).toNat 0 = some (AV.int IntKind.u8 n) ∧ (decide (n > (1 : Int)) = true → RetIs w117c4 [] (r, [])) ∧ (decide (n > (1 : Int)) = false → (w117c1 x at_ bs n r) ∧ (w117c2 x bs at_ n))) ∧ ((x.e == (9 : Int)) = false → (w117c1 x at_ bs n r) ∧ (w117c2 x bs at_ n)))) ∧ ∀ (x : Nat), J117 bs at_.toNat { e := x, n := (0 : Nat), i := (↑x : Int) } ∧ ((0 : Nat) < x → atB bs (at_.toNat + x) ≠ (0 : Nat)) → True → (∃ (y : N117), ValsAre [AV.sl 1 (bytesL bs) Own.no, I6 at_, I6 (↑x : Int), AV.int IntKind.u64 0, I6 (↑x : Int)] [AV.sl 1 (bytesL bs) Own.no, I6 at_, I6 (↑y.e : Int), AV.int IntKind.u64 (↑y.n : Int), I6 y.i] ∧ StIs { boxes := [], live := [] } { boxes := [], live := [] } ∧ J117 bs at_.toNat y ∧ True) ∧ ∀ (x : N117), J117 bs at_.toNat x → (decide (x.i ≥ (0 : Int)) = true → ((0 : Int) ≤ IntKind.i64.wrap (at_ + x.i) ∧ IntKind.i64.wrap (at_ + x.i) < (↑(bytesL bs).length : Int)) ∧ ∃ (n : Int), takeAt PQ 5 (bytesL bs) (IntKind.i64.wrap (at_ + x.i)).toNat 0 = some (AV.int IntKind.u8 n) ∧ (128 : Int) ≠ (0 : Int) ∧ ∃ (y : N117), ValsAre [AV.sl 1 (bytesL bs) Own.no, I6 at_, I6 (↑x.e : Int), AV.int IntKind.u64 (IntKind.u64.wrap (IntKind.u64.wrap ((↑x.n : Int) * (128 : Int)) + IntKind.u64.wrap (n.tmod (128 : Int)))), I6 (IntKind.i64.wrap (x.i - (1 : Int)))] [AV.sl 1 (bytesL bs) Own.no, I6 at_, I6 (↑y.e : Int), AV.int IntKind.u64 (↑y.n : Int), I6 y.i] ∧ StIs { boxes := [], live := [] } { boxes := [], live := [] } ∧ J117 bs at_.toNat y ∧ (y.i + (1 : Int)).toNat < (x.i + (1 : Int)).toNat) ∧ (decide (x.i ≥ (0 : Int)) = false → RetIs (AV.tup [AV.int IntKind.u64 (↑x.n : Int), I6 (IntKind.i64.wrap (IntKind.i64.wrap (at_ + (↑x.e : Int)) + (1 : Int))), I6 0]) [] (r, []))))) := by kernel_rfl
end Go.Abs
namespace Go.Abs
open Go.Proofs Go.Wire
theorem uintP_none : ∀ (f : Nat) (l : List UInt8), (∀ j, j < f → j < l.length → 128 ≤ (l.getD j 0).toNat) → uintP f l = if f ≤ l.length then .error 3 else .error 41
 | 0, l, _ => by rw [uintP, if_pos (by omega)]
 | f + 1, [], _ => by rw [uintP, if_neg (by simp)]
 | f + 1, c :: t, h => by
  have h0 := h 0 (by omega) (by simp)
  simp at h0
  rw [uintP, if_neg (by omega), uintP_none f t fun j hj hl => by simpa using h (j + 1) (by omega) (by simp; omega)]
  by_cases hf : f ≤ t.length
  ·rw [if_pos hf, if_pos (by simp; omega)]
  ·rw [if_neg hf, if_neg (by simp; omega)]
theorem uintP_some : ∀ (f : Nat) (l : List UInt8) (e : Nat), e < f → f ≤ 10 → e < l.length → (l.getD e 0).toNat < 128 → (∀ j, j < e → 128 ≤ (l.getD j 0).toNat) →
  uintP f l = if (f = e + 1 ∧ 1 < (l.getD e 0).toNat) ∨ (f < e + 10 ∧ (l.getD e 0).toNat = 0) then .error 3 else .ok (hornL (l.take (e + 1)), e + 1)
 | 0, l, e, h, _, _, _, _ => by omega
 | f + 1, [], e, _, _, h, _, _ => by simp at h
 | f + 1, c :: t, 0, h1, hf, h2, h3, h4 => by
  simp only [List.getD_cons_zero] at h3 ⊢
  rw [uintP, if_pos h3]
  by_cases hc : (f = 0 ∧ 1 < c.toNat) ∨ (f < 9 ∧ c.toNat = 0)
  ·rw [if_pos hc, if_pos (by omega)]
  ·rw [if_neg hc, if_neg (by omega)]
   simp [hornL]; omega
 | f + 1, c :: t, e + 1, h1, hf, h2, h3, h4 => by
  have h0 := h4 0 (by omega)
  simp only [List.getD_cons_zero, List.getD_cons_succ, List.length_cons] at h0 h2 h3 ⊢
  rw [uintP, if_neg (by omega), uintP_some f t e (by omega) (by omega) (by omega) h3 fun j hj => by simpa using h4 (j + 1) (by omega)]
  by_cases hc : (f = e + 1 ∧ 1 < (t.getD e 0).toNat) ∨ (f < e + 10 ∧ (t.getD e 0).toNat = 0)
  ·rw [if_pos hc, if_pos (by omega)]
  ·rw [if_neg hc, if_neg (by omega)]
   have hc2 := c.toNat_lt
   rw [List.take_succ_cons]
   simp only [hornL, Except.ok.injEq, Prod.mk.injEq, and_true]
   omega
theorem atB_drop {bs : List UInt8} {a j : Nat} : ((bs.drop a).getD j 0).toNat = atB bs (a + j) := by
 unfold atB
 rw [List.getD_eq_getElem?_getD, List.getD_eq_getElem?_getD, List.getElem?_drop]
theorem hornL_lt : ∀ l : List UInt8, hornL l < 2 ^ (7 * l.length)
 | [] => by simp [hornL]
 | c :: l => by
  have h := hornL_lt l
  have e : 2 ^ (7 * (c :: l).length) = 128 * 2 ^ (7 * l.length) := by
   rw [List.length_cons, show 7 * (l.length + 1) = 7 * l.length + 7 by omega, Nat.pow_add]; omega
  rw [hornL, e]; omega
theorem hornL_snoc : ∀ (l : List UInt8) (c : UInt8), c.toNat ≤ 1 → hornL (l ++ [c]) < 2 ^ (7 * l.length + 1)
 | [], c, h => by simp [hornL]; omega
 | d :: l, c, h => by
  have h := hornL_snoc l c h
  have e : 2 ^ (7 * (d :: l).length + 1) = 128 * 2 ^ (7 * l.length + 1) := by
   rw [List.length_cons, show 7 * (l.length + 1) + 1 = 7 * l.length + 1 + 7 by omega, Nat.pow_add]; omega
  rw [List.cons_append, hornL, e]; omega
theorem J117.lt {bs : List UInt8} {a : Nat} {x : N117} (h : J117 bs a x) (hi : 0 ≤ x.i) : x.n < 2 ^ 57 := by
 obtain ⟨he, hl, hb, hg, h0, h1, hn⟩ := h
 unfold fewN at he
 obtain ⟨i, hi⟩ : ∃ i : Nat, x.i = i := ⟨x.i.toNat, by omega⟩
 rw [hi] at hn h1
 rw [hn, show ((i : Int) + 1).toNat = i + 1 by omega]
 by_cases h9 : x.e = 9
 ·have h9' := hg h9
  have e : ((bs.drop a).take (x.e + 1)).drop (i + 1) = (((bs.drop a).take x.e).drop (i + 1)) ++ (if i < x.e then [(bs.drop a).getD x.e 0] else []) := by
   have hlen : x.e < (bs.drop a).length := by rw [List.length_drop]; omega
   rw [List.take_succ_eq_append_getElem hlen, List.drop_append]
   congr 1
   rw [List.length_take, Nat.min_eq_left (by omega)]
   by_cases hlt : i < x.e
   ·rw [if_pos hlt, show i + 1 - x.e = 0 by omega, List.drop_zero, List.getD_eq_getElem?_getD, List.getElem?_eq_getElem hlen]; rfl
   ·rw [if_neg hlt, List.drop_eq_nil_of_le (by simp; omega)]
  rw [e]
  by_cases hlt : i < x.e
  ·rw [if_pos hlt]
   have h2 := hornL_snoc (((bs.drop a).take x.e).drop (i + 1)) ((bs.drop a).getD x.e 0) (by rw [atB_drop, h9]; exact h9')
   refine Nat.lt_of_lt_of_le h2 (Nat.pow_le_pow_right (by omega) ?_)
   rw [List.length_drop, List.length_take]; omega
  ·rw [if_neg hlt, List.append_nil]
   refine Nat.lt_of_lt_of_le (hornL_lt _) (Nat.pow_le_pow_right (by omega) ?_)
   rw [List.length_drop, List.length_take]; omega
 ·refine Nat.lt_of_lt_of_le (hornL_lt _) (Nat.pow_le_pow_right (by omega) ?_)
  rw [List.length_drop, List.length_take]; omega
theorem J117.next {bs : List UInt8} {a : Nat} {x : N117} {i : Nat} (h : J117 bs a x) (hi : x.i = i) : J117 bs a ⟨x.e, x.n * 128 + atB bs (a + i) % 128, (i : Int) - 1⟩ := by
 obtain ⟨he, hl, hb, hg, h0, h1, hn⟩ := h
 refine ⟨he, hl, hb, hg, by simp only []; omega, by simp only []; omega, ?_⟩
 simp only []
 unfold fewN at he
 rw [hi] at hn
 rw [hn, show ((i : Int) + 1).toNat = i + 1 by omega, show ((i : Int) - 1 + 1).toNat = i by omega]
 have hlen : i < ((bs.drop a).take (x.e + 1)).length := by rw [List.length_take, List.length_drop]; omega
 rw [List.drop_eq_getElem_cons hlen, hornL]
 congr 2
 rw [List.getElem_take, ← atB_drop, List.getD_eq_getElem?_getD, List.getElem?_eq_getElem (by rw [List.length_drop]; omega)]
 rfl
theorem p117 (m at_ : Int) (bs : List UInt8) (hb : strOk bs) : PureOk PQ (GQ m) Xwo (tbl [(159, s159)]) (itbl []) (a117 bs at_) [] 117 [bytesA bs, .int .i64 at_] (rUint (uintA bs at_), []) := by
 have hb' : bs.length ≤ 2000000 := hb
 constructor
 generalize hr : rUint (uintA bs at_) = r
 have t1 : tbl [(159, s159)] 159 [.sl 1 (bytesL bs) .no, .int .i64 at_] = some (.int .i64 (leftI bs at_), []) := by rw [tbl_hit]; exact sRd_at hb
 rw [w117]; unfold w117c3 w117c2 w117c1 w117c5 w117c4 I6
 simp only [t1, bytesL_length, take_u8_iff agg5 size5, callIs_iff, Option.some.injEq, Prod.mk.injEq, AV.int.injEq, List.cons.injEq, valsAre_iff, stIs_iff, true_and, and_true, beq_iff_eq, beq_eq_false_iff_ne, ne_eq, exists_eq_left', decide_eq_true_eq, decide_eq_false_iff_not, ge_iff_le, gt_iff_lt, true_imp_iff]
 unfold uintA at hr
 refine ⟨fun h => ⟨?_⟩, fun h => ?_⟩
 ·unfold leftI at h
  rw [if_pos] at hr
  ·rw [← hr]; rfl
  ·apply Classical.byContradiction; intro hn; rw [if_neg hn] at h; omega
 ·have hat : ¬ (at_ < 0 ∨ (bs.length : Int) < at_) := by
   intro hn; unfold leftI at h; rw [if_pos hn] at h; omega
  rw [if_neg hat] at hr
  have hL : leftI bs at_ = bs.length - at_ := by unfold leftI; rw [if_neg hat]
  obtain ⟨a, rfl⟩ : ∃ a : Nat, at_ = a := ⟨at_.toNat, by omega⟩
  simp only [Int.toNat_natCast] at hr ⊢
  have hfew : fewN bs a = min (bs.length - a) 10 := rfl
  rw [hL]
  refine ⟨⟨⟨-1, fewN bs a - 1⟩, ⟨rfl, ?_⟩, ?_⟩, fun x hx => ⟨fun hi => ?_, fun hi => ?_⟩⟩
  ·rw [wrap64_in (by omega) (by omega)]; simp only []; omega
  ·exact ⟨by simp only []; omega, by simp only []; omega, .inl ⟨rfl, fun j h1 h2 => by simp only [] at h1; omega⟩⟩
  ·obtain ⟨h0, h1, hc⟩ := hx
   obtain ⟨i, hi'⟩ : ∃ i : Nat, x.i = i := ⟨x.i.toNat, by omega⟩
   have e1 : IntKind.i64.wrap ((a : Int) + x.i) = ((a + i : Nat) : Int) := by rw [wrap64_in (by omega) (by omega)]; omega
   have e2 : IntKind.i64.wrap (x.i - 1) = x.i - 1 := wrap64_in (by omega) (by omega)
   rw [e1, e2, Int.toNat_natCast]
   refine ⟨by omega, _, ⟨by omega, rfl⟩, fun hlt => ⟨⟨x.i, x.i - 1⟩, ⟨rfl, rfl⟩, ⟨by simp only []; omega, by simp only []; omega, .inr ⟨by simp only []; omega, by simp only []; omega, ?_, fun j h2 h3 => by simp only [] at h2 h3; omega⟩⟩, by simp only []; omega⟩, fun hlt => ⟨⟨x.e, x.i - 1⟩, ⟨rfl, rfl⟩, ⟨by simp only []; omega, by simp only []; omega, ?_⟩, by simp only []; omega⟩⟩
   ·simp only [hi', Int.toNat_natCast]; unfold atB; omega
   ·simp only []
    have hat : 128 ≤ atB bs (a + i) := by unfold atB; omega
    rcases hc with ⟨hc1, hc2⟩ | ⟨hc1, hc2, hc3, hc4⟩
    ·refine .inl ⟨hc1, fun j h2 h3 => ?_⟩
     by_cases hj : j = i
     ·subst hj; exact hat
     ·exact hc2 j (by omega) h3
    ·refine .inr ⟨by omega, hc2, hc3, fun j h2 h3 => ?_⟩
     by_cases hj : j = i
     ·subst hj; exact hat
     ·exact hc4 j (by omega) h3
  ·have hno : ∀ x : E117, I117 bs a x → x.i = -1 → x.e < 0 → uintP 10 (bs.drop a) = if 10 ≤ bs.length - a then .error 3 else .error 41 := fun x hx hi1 he => by
    obtain ⟨h0, h1, hc⟩ := hx
    rw [uintP_none 10 (bs.drop a) fun j hj hl => ?_, List.length_drop]
    rw [List.length_drop] at hl
    rw [atB_drop]
    rcases hc with ⟨hc1, hc2⟩ | ⟨hc1, hc2, hc3, hc4⟩
    ·exact hc2 j (by omega) (by omega)
    ·omega
   have hi1 : x.i = -1 := by have := hx.i0; omega
   refine ⟨⟨fun he => ⟨fun h9 => ⟨?_⟩, fun h9 => ⟨x, rfl, hx, hi1, fun _ => by omega⟩⟩, fun he => ⟨x, rfl, hx, hi1, fun _ => by omega⟩⟩, ?_⟩
   ·rw [hno x hx hi1 he, if_neg (by omega)] at hr
    rw [← hr]; rfl
   ·clear hi hi1 hx x
    rintro x ⟨hx, hi1, h9⟩
    have hsm : ∀ e : Nat, x.e = e → J117 bs a ⟨e, 0, e⟩ ∨ (e = 9 ∧ 1 < atB bs (a + 9)) := fun e he => by
     obtain ⟨h0, h1, hc⟩ := hx
     by_cases hg : e = 9 ∧ 1 < atB bs (a + 9)
     ·exact .inr hg
     ·rcases hc with ⟨hc1, hc2⟩ | ⟨hc1, hc2, hc3, hc4⟩
      ·omega
      ·rw [he, Int.toNat_natCast] at hc3
       refine .inl ⟨by simp only []; omega, hc3, fun j hj => hc4 j (by omega) (by simp only [] at hj; omega), fun h9 => by simp only [] at h9; omega, by simp only []; omega, by simp only []; omega, ?_⟩
       simp only []
       rw [List.drop_eq_nil_of_le]
       ·rfl
       ·rw [List.length_take]; omega
    have hyes : ∀ e : Nat, x.e = e → uintP 10 (bs.drop a) = if (e = 9 ∧ 1 < atB bs (a + e)) ∨ (0 < e ∧ atB bs (a + e) = 0) then .error 3 else .ok (hornL ((bs.drop a).take (e + 1)), e + 1) := fun e he => by
     obtain ⟨h0, h1, hc⟩ := hx
     rcases hc with ⟨hc1, hc2⟩ | ⟨hc1, hc2, hc3, hc4⟩
     ·omega
     ·rw [he, Int.toNat_natCast] at hc3
      rw [uintP_some 10 (bs.drop a) e (by omega) (by omega) (by rw [List.length_drop]; omega) (by rw [atB_drop]; exact hc3) (fun j hj => by rw [atB_drop]; exact hc4 j (by omega) (by omega))]
      rw [atB_drop]
      by_cases hq : (e = 9 ∧ 1 < atB bs (a + e)) ∨ (0 < e ∧ atB bs (a + e) = 0)
      ·rw [if_pos hq, if_pos (by omega)]
      ·rw [if_neg hq, if_neg (by omega)]
    have hlt : x.e < fewN bs a := by
     obtain ⟨h0, h1, hc⟩ := hx
     rcases hc with ⟨hc1, hc2⟩ | ⟨hc1, hc2, hc3, hc4⟩
     ·omega
     ·exact hc2
    have w9 : IntKind.i64.wrap ((a : Int) + 9) = ((a + 9 : Nat) : Int) := by rw [wrap64_in (by omega) (by omega)]; omega
    refine ⟨⟨fun he => ⟨?_⟩, fun he => ?_⟩, ?_⟩
    ·rw [hno x hx hi1 he, if_pos (by have := h9 he; omega)] at hr
     rw [← hr]; rfl
    ·obtain ⟨e, hee⟩ : ∃ e : Nat, x.e = e := ⟨x.e.toNat, by omega⟩
     have we : IntKind.i64.wrap ((a : Int) + x.e) = ((a + e : Nat) : Int) := by rw [wrap64_in (by omega) (by omega)]; omega
     have hyes := hyes e hee
     have hsm := hsm e hee
     have hae : (bs.getD (a + e) 0).toNat = atB bs (a + e) := rfl
     rw [we, w9, Int.toNat_natCast, Int.toNat_natCast]
     have fin : ∀ _ : Unit, ¬ (e = 9 ∧ 1 < atB bs (a + 9)) → (0 < e → atB bs (a + e) ≠ 0) → ∃ y : Nat, x.e = y ∧ J117 bs a { e := y, n := 0, i := y } ∧ (0 < y → ¬ atB bs (a + y) = 0) := fun _ h1 h2 =>
      ⟨e, hee, hsm.resolve_right h1, h2⟩
     refine ⟨fun h9' => ⟨by omega, _, ⟨by omega, rfl⟩, fun h1 => ⟨?_⟩, fun h1 => ⟨fun h0 => ⟨by omega, _, ⟨by omega, rfl⟩, fun hz => ⟨?_⟩, fun hz => ?_⟩, fun h0 => ?_⟩⟩, fun h9' => ⟨fun h0 => ⟨by omega, _, ⟨by omega, rfl⟩, fun hz => ⟨?_⟩, fun hz => ?_⟩, fun h0 => ?_⟩⟩
     ·have : e = 9 := by omega
      subst this
      rw [hyes, if_pos (.inl ⟨rfl, by unfold atB; omega⟩)] at hr
      rw [← hr]; rfl
     ·rw [hyes, if_pos (.inr ⟨by omega, by unfold atB; omega⟩)] at hr
      rw [← hr]; rfl
     ·exact fin () (fun h => h1 (by have := h.2; unfold atB at this; clear fin hsm hyes; omega)) fun _ => by unfold atB; clear fin hsm hyes; omega
     ·exact absurd h0 (by clear fin hsm hyes; omega)
     ·rw [hyes, if_pos (.inr ⟨by omega, by unfold atB; omega⟩)] at hr
      rw [← hr]; rfl
     ·exact fin () (fun h => h9' (by have := h.1; clear fin hsm hyes h; omega)) fun _ => by unfold atB; clear fin hsm hyes; omega
     ·exact fin () (fun h => h9' (by have := h.1; clear fin hsm hyes h; omega)) fun h => absurd h (by clear fin hsm hyes; omega)
    ·clear hsm hyes hlt hno hi1 h9 hx x
     rintro e ⟨hj, hz⟩
     have hu : uintP 10 (bs.drop a) = .ok (hornL ((bs.drop a).take (e + 1)), e + 1) := by
      obtain ⟨he, hl, hb, hg, h0, h1, hn⟩ := hj
      simp only [] at he hl hb hg
      rw [uintP_some 10 (bs.drop a) e (by omega) (by omega) (by rw [List.length_drop]; omega) (by rw [atB_drop]; exact hl) fun j hj => by rw [atB_drop]; exact hb j hj]
      rw [atB_drop, if_neg]
      rintro (⟨h2, h3⟩ | ⟨h2, h3⟩)
      ·have : e = 9 := by omega
       subst this
       have := hg rfl; omega
      ·exact hz (by omega) h3
     rw [hu] at hr
     refine ⟨⟨⟨e, 0, e⟩, ⟨rfl, rfl, rfl⟩, hj⟩, fun x hx => ⟨fun hi => ?_, fun hi => ⟨?_⟩⟩⟩
     ·obtain ⟨i, hi'⟩ : ∃ i : Nat, x.i = i := ⟨x.i.toNat, by omega⟩
      have hfe : x.e < min (bs.length - a) 10 := hx.e
      have hie := hx.i1
      have hlt := hx.lt hi
      have e57 : (2 : Nat) ^ 57 = 144115188075855872 := by decide
      have e1 : IntKind.i64.wrap ((a : Int) + x.i) = ((a + i : Nat) : Int) := by rw [wrap64_in (by omega) (by omega)]; omega
      have e2 : IntKind.i64.wrap (x.i - 1) = (i : Int) - 1 := by rw [wrap64_in (by omega) (by omega)]; omega
      rw [e1, e2, Int.toNat_natCast]
      refine ⟨by omega, _, ⟨by omega, rfl⟩, by omega, ⟨x.e, x.n * 128 + atB bs (a + i) % 128, (i : Int) - 1⟩, ⟨rfl, ?_, rfl⟩, hx.next hi', by simp only []; omega⟩
      show _ = ((x.n * 128 + (bs.getD (a + i) 0).toNat % 128 : Nat) : Int)
      have hc := (bs.getD (a + i) 0).toNat_lt
      rw [Int.tmod_eq_emod_of_nonneg (by omega), wrapu64, wrapu64, wrapu64]
      omega
     ·have hee : x.e = e := by
       have h1 := hx.l
       have h2 := hx.b
       have h3 := hj.l
       have h4 := hj.b
       simp only [] at h3 h4
       rcases Nat.lt_trichotomy x.e e with h5 | h5 | h5
       ·have := h4 x.e h5; omega
       ·exact h5
       ·have := h2 e h5; omega
      have hi0 := hx.i0
      have hn := hx.n
      have hfe : x.e < min (bs.length - a) 10 := hx.e
      rw [hee, show (x.i + 1).toNat = 0 by omega, List.drop_zero] at hn
      have e1 : IntKind.i64.wrap (IntKind.i64.wrap ((a : Int) + x.e) + 1) = (a : Int) + ((e + 1 : Nat) : Int) := by
       rw [wrap64_in (n := (a : Int) + x.e) (by omega) (by omega), wrap64_in (by omega) (by omega)]; omega
      rw [← hr, e1, hn]
      rfl
section
variable {bs : List UInt8} {a : Nat}
end
theorem sRd_of {X : Shapes} {R : Callee} {C : CCallee} {m : Int} {g : FuncId} {f : List UInt8 → Int → AV} (hR : CalleeOk PQ (GQ m) R) (hC : ICalleeOk PQ (GQ m) (lowC C))
  (h : ∀ bs n, strOk bs → ∃ A, PureOk PQ (GQ m) X R C A [] g [bytesA bs, .int .i64 n] (f bs n, [])) : SpecOk PQ (GQ m) g (sRd f) := spec_ofW (X := X) (m := []) [1] mixedQ hR hC fun args r h' => by
 unfold sRd onBytes at h'
 split at h'
 ·split at h'
  ·rename_i hz
   split at h'
   ·rename_i bs hb
    dsimp only at h'
    split at h'
    ·rename_i hp
     injection h' with h'; subst h'
     simp only [wkL, wk1 hz hb]
     exact h _ _ hp
    ·cases h'
   ·cases h'
  ·cases h'
 ·cases h'
theorem o159 (m : Int) : SpecOk PQ (GQ m) 159 s159 := sRd_of (X := Xwo) tbl_nil itbl_nil fun bs n hb => ⟨nAn, p159 m n bs hb⟩
theorem o68 (m : Int) : SpecOk PQ (GQ m) 68 s68 := sRd_of (X := Xwo) (tbl_cons o35 tbl_nil) itbl_nil fun bs n hb => ⟨nAn, p68 m n bs hb⟩
theorem o117 (m : Int) : SpecOk PQ (GQ m) 117 s117 := sRd_of (X := Xwo) (tbl_cons (o159 m) tbl_nil) itbl_nil fun bs n hb => ⟨a117 bs n, p117 m n bs hb⟩
theorem o118 (m : Int) : SpecOk PQ (GQ m) 118 s68 := sRd_of (X := Xwo) (tbl_cons (o117 m) tbl_nil) itbl_nil fun bs n hb => ⟨nAn, p118 m n bs hb⟩
theorem o116 (m : Int) : SpecOk PQ (GQ m) 116 s116 := sRd_of (X := Xwo) (tbl_cons (o117 m) tbl_nil) itbl_nil fun bs n hb => ⟨nAn, p116 m n bs hb⟩
end Go.Abs
namespace Go.Abs
open Go.Proofs
def s49 : Spec := fun args => match args with
 | [.sl a xs .no, .sl b ys .no] => match unL unS xs, unL unS ys with
  | some l, some k => if a = 1 ∧ b = 1 ∧ l.length ≤ 2000000 then some (.bool (decide (l = k)), []) else none
  | _, _ => none
 | _ => none
def s22 : Spec := fun args => match args with
 | [.sl a xs .no, .sl b ys .no] => match unL unLb xs, unL unLb ys with
  | some l, some k => if a = 3 ∧ b = 3 ∧ l.length ≤ 2000000 then some (.bool (decide (l = k)), []) else none
  | _, _ => none
 | _ => none
def s13 : Spec := fun args => match args with
 | [a, b] => match unRqN a, unRqN b with
  | some x, some y => if x.feats.length ≤ 2000000 ∧ x.labels.length ≤ 2000000 then some (.bool (decide (x = y)), []) else none
  | _, _ => none
 | _ => none
def s30 : Spec := fun args => match args with
 | [.sl a xs .no, .sl b ys .no] => match unBytes xs, unBytes ys with
  | some l, some k => if a = 1 ∧ b = 1 ∧ l.length ≤ 2000000 then some (.bool (decide (l = k)), []) else none
  | _, _ => none
 | _ => none
def sameA (sz : Nat) (xs ys : List AV) (n : Nat) (I : Nat → Prop) : Anns := ⟨fun q => if q = 4 then some { α := Nat, slots := [0, 1, 5], nb := 0, vals := fun i => [.sl sz xs .no, .sl sz ys .no, .int .i64 i], sS := fun _ => ⟨[], []⟩, I := I, μ := fun i => n - i } else none, nA⟩
def a49 (l k : List (List UInt8)) : Anns := sameA 1 (strsL l) (strsL k) l.length fun i => l.length = k.length ∧ i ≤ l.length ∧ l.take i = k.take i
def a22 (l k : List Lb) : Anns := sameA 3 (lbsL l) (lbsL k) l.length fun i => l.length = k.length ∧ i ≤ l.length ∧ l.take i = k.take i
def a30 (l k : List UInt8) : Anns := sameA 1 (bytesL l) (bytesL k) l.length fun i => l.length = k.length ∧ i ≤ l.length ∧ l.take i = k.take i
def XS3 : Shapes := fun f => match f with
 | 10 | 13 | 16 | 22 | 24 | 30 | 33 | 49 => some shB
 | 14 | 15 | 54 => some shS
 | _ => none
/-! Decimal -/
/-! Format -/
def t13 : List (FuncId × Spec) := [(49, s49), (22, s22)]
theorem w49 (m : Int) (l k : List (List UInt8)) (r : AV) : (pureW PQ (GQ m) XS3 (tbl []) (itbl []) (a49 l k) [] 49 [.sl 1 (strsL l) .no, .sl 1 (strsL k) .no] (r, [])) =
((((↑(strsL l).length : Int) != (↑(strsL k).length : Int)) = true → RetIs (AV.bool false) [] (r, [])) ∧ (((↑(strsL l).length : Int) != (↑(strsL k).length : Int)) = false → (∃ (y : Nat), ValsAre [AV.sl 1 (strsL l) Own.no, AV.sl 1 (strsL k) Own.no, I6 0] [AV.sl 1 (strsL l) Own.no, AV.sl 1 (strsL k) Own.no, I6 (↑y : Int)] ∧ StIs { boxes := [], live := [] } { boxes := [], live := [] } ∧ (l.length = k.length ∧ y ≤ l.length ∧ List.take y l = List.take y k) ∧ True) ∧ ∀ (x : Nat), l.length = k.length ∧ x ≤ l.length ∧ List.take x l = List.take x k → (decide ((↑x : Int) < (↑(strsL l).length : Int)) = true → ((0 : Int) ≤ (↑x : Int) ∧ (↑x : Int) < (↑(strsL l).length : Int)) ∧ ∃ (s : List UInt8), takeAt PQ 9 (strsL l) (↑x : Int).toNat 0 = some (AV.str s) ∧ ((0 : Int) ≤ (↑x : Int) ∧ (↑x : Int) < (↑(strsL k).length : Int)) ∧ ∃ (s_1 : List UInt8), takeAt PQ 9 (strsL k) (↑x : Int).toNat 0 = some (AV.str s_1) ∧ ((!s == s_1) = true → RetIs (AV.bool false) [] (r, [])) ∧ ((!s == s_1) = false → ∃ (y : Nat), ValsAre [AV.sl 1 (strsL l) Own.no, AV.sl 1 (strsL k) Own.no, I6 (IntKind.i64.wrap ((↑x : Int) + (1 : Int)))] [AV.sl 1 (strsL l) Own.no, AV.sl 1 (strsL k) Own.no, I6 (↑y : Int)] ∧ StIs { boxes := [], live := [] } { boxes := [], live := [] } ∧ (l.length = k.length ∧ y ≤ l.length ∧ List.take y l = List.take y k) ∧ l.length - y < l.length - x)) ∧ (decide ((↑x : Int) < (↑(strsL l).length : Int)) = false → RetIs (AV.bool true) [] (r, [])))) := by kernel_rfl
theorem w22 (m : Int) (l k : List Lb) (r : AV) : (pureW PQ (GQ m) XS3 (tbl []) (itbl []) (a22 l k) [] 22 [.sl 3 (lbsL l) .no, .sl 3 (lbsL k) .no] (r, [])) =
((((↑(lbsL l).length : Int) != (↑(lbsL k).length : Int)) = true → RetIs (AV.bool false) [] (r, [])) ∧ (((↑(lbsL l).length : Int) != (↑(lbsL k).length : Int)) = false → (∃ (y : Nat), ValsAre [AV.sl 3 (lbsL l) Own.no, AV.sl 3 (lbsL k) Own.no, I6 0] [AV.sl 3 (lbsL l) Own.no, AV.sl 3 (lbsL k) Own.no, I6 (↑y : Int)] ∧ StIs { boxes := [], live := [] } { boxes := [], live := [] } ∧ (l.length = k.length ∧ y ≤ l.length ∧ List.take y l = List.take y k) ∧ True) ∧ ∀ (x : Nat), l.length = k.length ∧ x ≤ l.length ∧ List.take x l = List.take x k → (decide ((↑x : Int) < (↑(lbsL l).length : Int)) = true → ((0 : Int) ≤ (↑x : Int) ∧ (↑x : Int) < (↑(lbsL l).length : Int)) ∧ ∃ (s : List UInt8), ∃ (n : Int), ∃ (n_1 : Int), takeAt PQ 65 (lbsL l) (↑x : Int).toNat 0 = some (AV.agg [AV.str s, I6 n, I6 n_1]) ∧ ((0 : Int) ≤ (↑x : Int) ∧ (↑x : Int) < (↑(lbsL k).length : Int)) ∧ ∃ (s_1 : List UInt8), ∃ (n_2 : Int), ∃ (n_3 : Int), takeAt PQ 65 (lbsL k) (↑x : Int).toNat 0 = some (AV.agg [AV.str s_1, I6 n_2, I6 n_3]) ∧ ((!(s == s_1 && (n == n_2 && (n_1 == n_3 && true)))) = true → RetIs (AV.bool false) [] (r, [])) ∧ ((!(s == s_1 && (n == n_2 && (n_1 == n_3 && true)))) = false → ∃ (y : Nat), ValsAre [AV.sl 3 (lbsL l) Own.no, AV.sl 3 (lbsL k) Own.no, I6 (IntKind.i64.wrap ((↑x : Int) + (1 : Int)))] [AV.sl 3 (lbsL l) Own.no, AV.sl 3 (lbsL k) Own.no, I6 (↑y : Int)] ∧ StIs { boxes := [], live := [] } { boxes := [], live := [] } ∧ (l.length = k.length ∧ y ≤ l.length ∧ List.take y l = List.take y k) ∧ l.length - y < l.length - x)) ∧ (decide ((↑x : Int) < (↑(lbsL l).length : Int)) = false → RetIs (AV.bool true) [] (r, [])))) := by kernel_rfl
theorem w30 (m : Int) (l k : List UInt8) (r : AV) : (pureW PQ (GQ m) XS3 (tbl []) (itbl []) (a30 l k) [] 30 [.sl 1 (bytesL l) .no, .sl 1 (bytesL k) .no] (r, [])) =
((((↑(bytesL l).length : Int) != (↑(bytesL k).length : Int)) = true → RetIs (AV.bool false) [] (r, [])) ∧ (((↑(bytesL l).length : Int) != (↑(bytesL k).length : Int)) = false → (∃ (y : Nat), ValsAre [AV.sl 1 (bytesL l) Own.no, AV.sl 1 (bytesL k) Own.no, I6 0] [AV.sl 1 (bytesL l) Own.no, AV.sl 1 (bytesL k) Own.no, I6 (↑y : Int)] ∧ StIs { boxes := [], live := [] } { boxes := [], live := [] } ∧ (l.length = k.length ∧ y ≤ l.length ∧ List.take y l = List.take y k) ∧ True) ∧ ∀ (x : Nat), l.length = k.length ∧ x ≤ l.length ∧ List.take x l = List.take x k → (decide ((↑x : Int) < (↑(bytesL l).length : Int)) = true → ((0 : Int) ≤ (↑x : Int) ∧ (↑x : Int) < (↑(bytesL l).length : Int)) ∧ ∃ (n : Int), takeAt PQ 5 (bytesL l) (↑x : Int).toNat 0 = some (AV.int IntKind.u8 n) ∧ ((0 : Int) ≤ (↑x : Int) ∧ (↑x : Int) < (↑(bytesL k).length : Int)) ∧ ∃ (n_1 : Int), takeAt PQ 5 (bytesL k) (↑x : Int).toNat 0 = some (AV.int IntKind.u8 n_1) ∧ ((n != n_1) = true → RetIs (AV.bool false) [] (r, [])) ∧ ((n != n_1) = false → ∃ (y : Nat), ValsAre [AV.sl 1 (bytesL l) Own.no, AV.sl 1 (bytesL k) Own.no, I6 (IntKind.i64.wrap ((↑x : Int) + (1 : Int)))] [AV.sl 1 (bytesL l) Own.no, AV.sl 1 (bytesL k) Own.no, I6 (↑y : Int)] ∧ StIs { boxes := [], live := [] } { boxes := [], live := [] } ∧ (l.length = k.length ∧ y ≤ l.length ∧ List.take y l = List.take y k) ∧ l.length - y < l.length - x)) ∧ (decide ((↑x : Int) < (↑(bytesL l).length : Int)) = false → RetIs (AV.bool true) [] (r, [])))) := by kernel_rfl
theorem w13 (m : Int) (x y : Rq) (r : AV) : (pureW PQ (GQ m) XS3 (tbl t13) (itbl []) nAn [] 13 [rqA x, rqA y] (r, [])) =
(∃ (b : Bool), CallIs (tbl [(49, s49), (22, s22)] 49 [AV.sl 1 (strsL x.feats) Own.no, AV.sl 1 (strsL y.feats) Own.no]) (AV.bool b) [] ∧ (b = true → ∃ (b : Bool), CallIs (tbl [(49, s49), (22, s22)] 22 [AV.sl 3 (lbsL x.labels) Own.no, AV.sl 3 (lbsL y.labels) Own.no]) (AV.bool b) [] ∧ (b = true → ((x.entity == y.entity) = true → ((x.seed == y.seed) = true → ((x.permille == y.permille) = true → RetIs (AV.bool true) [] (r, [])) ∧ ((x.permille == y.permille) = false → RetIs (AV.bool false) [] (r, []))) ∧ ((x.seed == y.seed) = false → RetIs (AV.bool false) [] (r, []))) ∧ ((x.entity == y.entity) = false → RetIs (AV.bool false) [] (r, []))) ∧ (b = false → RetIs (AV.bool false) [] (r, []))) ∧ (b = false → ∃ (b : Bool), CallIs (tbl [(49, s49), (22, s22)] 22 [AV.sl 3 (lbsL x.labels) Own.no, AV.sl 3 (lbsL y.labels) Own.no]) (AV.bool b) [] ∧ (b = true → RetIs (AV.bool false) [] (r, [])) ∧ (b = false → RetIs (AV.bool false) [] (r, [])))) := by kernel_rfl
section
variable {α : Type} {l k : List α} {i : Nat}
theorem eqL_stop (hl : l.length = k.length) (hi : i < l.length) (h : l[i] ≠ k[i]'(by omega)) : l ≠ k := by
 rintro rfl; exact h rfl
theorem eqL_step (hl : l.length = k.length) (hi : i < l.length) (h : l.take i = k.take i) (he : l[i] = k[i]'(by omega)) : l.take (i + 1) = k.take (i + 1) := by
 rw [List.take_succ_eq_append_getElem hi, List.take_succ_eq_append_getElem (by omega), h, he]
theorem eqL_end (hl : l.length = k.length) (hi : ¬ i < l.length) (h : l.take i = k.take i) : l = k := by
 rwa [List.take_of_length_le (by omega), List.take_of_length_le (by omega)] at h
end
theorem p49 (m : Int) (l k : List (List UInt8)) (hl : l.length ≤ 2000000) : PureOk PQ (GQ m) XS3 (tbl []) (itbl []) (a49 l k) [] 49 [.sl 1 (strsL l) .no, .sl 1 (strsL k) .no] (.bool (decide (l = k)), []) := by
  constructor
  rw [w49]; unfold I6
  have hn : ∀ l : List (List UInt8), (strsL l).length = l.length := fun l => List.length_map _
  simp only [hn]
  refine ⟨fun h => ⟨?_⟩, fun h => ?_⟩
  · have h' : (l.length : Int) ≠ k.length := by simpa using h
    rw [decide_eq_false (by rintro rfl; exact h' rfl)]
  · have e : l.length = k.length := by have : (l.length : Int) = k.length := by simpa using h
                                       omega
    refine ⟨⟨0, ⟨rfl⟩, ⟨rfl⟩, ⟨e, Nat.zero_le _, rfl⟩, trivial⟩, fun i hi => ⟨fun lt => ?_, fun ge => ⟨?_⟩⟩⟩
    · have lt := of_decide_eq_true lt
      have hil : i < l.length := by omega
      refine ⟨⟨by omega, by omega⟩, _, by rw [Int.toNat_natCast]; exact take_str hil, ⟨by omega, by omega⟩, _, by rw [Int.toNat_natCast]; exact take_str (by omega), fun h => ⟨?_⟩, fun h => ⟨i + 1, ⟨by rw [wrapI (by omega)]⟩, ⟨rfl⟩, ⟨e, hil, eqL_step e hil hi.2.2 (by simpa using h)⟩, by omega⟩⟩
      rw [decide_eq_false (eqL_stop e hil (by simpa using h))]
    · have ge := of_decide_eq_false ge
      rw [decide_eq_true (eqL_end e (by omega) hi.2.2)]
theorem p22 (m : Int) (l k : List Lb) (hl : l.length ≤ 2000000) : PureOk PQ (GQ m) XS3 (tbl []) (itbl []) (a22 l k) [] 22 [.sl 3 (lbsL l) .no, .sl 3 (lbsL k) .no] (.bool (decide (l = k)), []) := by
  constructor
  rw [w22]; unfold I6
  have hn : ∀ l : List Lb, (lbsL l).length = l.length := fun l => List.length_map _
  simp only [hn]
  refine ⟨fun h => ⟨?_⟩, fun h => ?_⟩
  · have h' : (l.length : Int) ≠ k.length := by simpa using h
    rw [decide_eq_false (by rintro rfl; exact h' rfl)]
  · have e : l.length = k.length := by have : (l.length : Int) = k.length := by simpa using h
                                       omega
    refine ⟨⟨0, ⟨rfl⟩, ⟨rfl⟩, ⟨e, Nat.zero_le _, rfl⟩, trivial⟩, fun i hi => ⟨fun lt => ?_, fun ge => ⟨?_⟩⟩⟩
    · have lt := of_decide_eq_true lt
      have hil : i < l.length := by omega
      have hik : i < k.length := by omega
      refine ⟨⟨by omega, by omega⟩, _, _, _, by rw [Int.toNat_natCast]; exact take_lb hil, ⟨by omega, by omega⟩, _, _, _, by rw [Int.toNat_natCast]; exact take_lb hik, fun h => ⟨?_⟩, fun h => ⟨i + 1, ⟨by rw [wrapI (by omega)]⟩, ⟨rfl⟩, ⟨e, hil, eqL_step e hil hi.2.2 ?_⟩, by omega⟩⟩
      · rw [decide_eq_false (eqL_stop e hil ?_)]
        intro h'
        rw [h'] at h
        simp at h
      · have h' : l[i].key = k[i].key ∧ l[i].event = k[i].event ∧ l[i].know = k[i].know := by simpa using h
        have : ∀ a b : Lb, a.key = b.key → a.event = b.event → a.know = b.know → a = b := by rintro ⟨⟩ ⟨⟩ rfl rfl rfl; rfl
        exact this _ _ h'.1 h'.2.1 h'.2.2
    · have ge := of_decide_eq_false ge
      rw [decide_eq_true (eqL_end e (by omega) hi.2.2)]
theorem o49 (m : Int) : SpecOk PQ (GQ m) 49 s49 := spec_of (X := XS3) (m := []) mixedQ tbl_nil itbl_nil fun args r h => by
 unfold s49 at h
 split at h
 case h_2 => cases h
 split at h
 case h_2 => cases h
 rename_i h1 h2
 split at h
 case isFalse => cases h
 rename_i hc
 injection h with h; subst h
 rw [unL_inv unS_inv h1, unL_inv unS_inv h2, hc.1, hc.2.1]
 exact ⟨_, p49 m _ _ hc.2.2⟩
theorem o22 (m : Int) : SpecOk PQ (GQ m) 22 s22 := spec_of (X := XS3) (m := []) mixedQ tbl_nil itbl_nil fun args r h => by
 unfold s22 at h
 split at h
 case h_2 => cases h
 split at h
 case h_2 => cases h
 rename_i h1 h2
 split at h
 case isFalse => cases h
 rename_i hc
 injection h with h; subst h
 rw [unL_inv unLb_inv h1, unL_inv unLb_inv h2, hc.1, hc.2.1]
 exact ⟨_, p22 m _ _ hc.2.2⟩
theorem run49 {l k : List (List UInt8)} (h : l.length ≤ 2000000) : s49 [.sl 1 (strsL l) .no, .sl 1 (strsL k) .no] = some (.bool (decide (l = k)), []) := by
 simp only [s49, unL_map unS_ok]
 rw [if_pos ⟨trivial, trivial, h⟩]
theorem run22 {l k : List Lb} (h : l.length ≤ 2000000) : s22 [.sl 3 (lbsL l) .no, .sl 3 (lbsL k) .no] = some (.bool (decide (l = k)), []) := by
 simp only [s22, unL_map unLb_ok]
 rw [if_pos ⟨trivial, trivial, h⟩]
theorem p13 (m : Int) (x y : Rq) (h1 : x.feats.length ≤ 2000000) (h2 : x.labels.length ≤ 2000000) : PureOk PQ (GQ m) XS3 (tbl t13) (itbl []) nAn [] 13 [rqA x, rqA y] (.bool (decide (x = y)), []) := by
 constructor
 rw [w13]
 obtain ⟨en, fs, ls, sd, pm⟩ := x
 obtain ⟨en', fs', ls', sd', pm'⟩ := y
 have no : ¬ (fs = fs' ∧ ls = ls' ∧ en = en' ∧ sd = sd' ∧ pm = pm') → ∀ b : Bool, b = false → RetIs (.bool b) [] (.bool (decide ((⟨en, fs, ls, sd, pm⟩ : Rq) = ⟨en', fs', ls', sd', pm'⟩)), []) := fun h b hb => by
  subst hb
  refine ⟨?_⟩
  rw [decide_eq_false]
  intro e
  injection e with e1 e2 e3 e4 e5
  exact h ⟨e2, e3, e1, e4, e5⟩
 refine ⟨_, ⟨run49 h1⟩, fun b1 => ⟨_, ⟨run22 h2⟩, fun b2 => ⟨fun b3 => ⟨fun b4 => ⟨fun b5 => ⟨?_⟩, fun b5 => no (fun e => by simp [e.2.2.2.2] at b5) _ rfl⟩, fun b4 => no (fun e => by simp [e.2.2.2.1] at b4) _ rfl⟩, fun b3 => no (fun e => by simp [e.2.2.1] at b3) _ rfl⟩, fun b2 => no (fun e => of_decide_eq_false b2 e.2.1) _ rfl⟩, fun b1 => ⟨_, ⟨run22 h2⟩, fun b2 => no (fun e => of_decide_eq_false b1 e.1) _ rfl, fun b2 => no (fun e => of_decide_eq_false b1 e.1) _ rfl⟩⟩
 have e1 : fs = fs' := of_decide_eq_true b1
 have e2 : ls = ls' := of_decide_eq_true b2
 have e3 : en = en' := eq_of_beq b3
 have e4 : sd = sd' := eq_of_beq b4
 have e5 : pm = pm' := eq_of_beq b5
 subst e1; subst e2; subst e3; subst e4; subst e5
 rw [decide_eq_true rfl]
theorem o13 (m : Int) : SpecOk PQ (GQ m) 13 s13 := spec_of (X := XS3) (m := []) mixedQ (tbl_cons (o49 m) (tbl_cons (o22 m) tbl_nil)) itbl_nil fun args r h => by
 unfold s13 at h
 split at h
 case h_2 => cases h
 split at h
 case h_2 => cases h
 rename_i h1 h2
 split at h
 case isFalse => cases h
 rename_i hc
 injection h with h; subst h
 rw [unRqN_inv _ _ h1, unRqN_inv _ _ h2]
 exact ⟨_, p13 m _ _ hc.1 hc.2⟩
theorem run13 {x y : Rq} (h1 : x.feats.length ≤ 2000000) (h2 : x.labels.length ≤ 2000000) : s13 [rqA x, rqA y] = some (.bool (decide (x = y)), []) := by
 simp only [s13, unRqN_ok]
 rw [if_pos ⟨h1, h2⟩]
/-! Decimal -/
theorem take_b {l : List UInt8} {i : Nat} (h : i < l.length) : takeAt PQ 5 (bytesL l) i 0 = some (.int .u8 l[i].toNat) :=
 (take_u8_iff agg5 size5).2 ⟨h, by rw [List.getD_eq_getElem?_getD, List.getElem?_eq_getElem h]; rfl⟩
theorem p30 (m : Int) (l k : List UInt8) (hl : l.length ≤ 2000000) : PureOk PQ (GQ m) XS3 (tbl []) (itbl []) (a30 l k) [] 30 [.sl 1 (bytesL l) .no, .sl 1 (bytesL k) .no] (.bool (decide (l = k)), []) := by
  constructor
  rw [w30]; unfold I6
  have hn : ∀ l : List UInt8, (bytesL l).length = l.length := fun l => bytesL_length
  simp only [hn]
  refine ⟨fun h => ⟨?_⟩, fun h => ?_⟩
  · have h' : (l.length : Int) ≠ k.length := by simpa using h
    rw [decide_eq_false (by rintro rfl; exact h' rfl)]
  · have e : l.length = k.length := by have : (l.length : Int) = k.length := by simpa using h
                                       omega
    refine ⟨⟨0, ⟨rfl⟩, ⟨rfl⟩, ⟨e, Nat.zero_le _, rfl⟩, trivial⟩, fun i hi => ⟨fun lt => ?_, fun ge => ⟨?_⟩⟩⟩
    · have lt := of_decide_eq_true lt
      have hil : i < l.length := by omega
      have hik : i < k.length := by omega
      refine ⟨⟨by omega, by omega⟩, _, by rw [Int.toNat_natCast]; exact take_b hil, ⟨by omega, by omega⟩, _, by rw [Int.toNat_natCast]; exact take_b hik, fun h => ⟨?_⟩, fun h => ⟨i + 1, ⟨by rw [wrapI (by omega)]⟩, ⟨rfl⟩, ⟨e, hil, eqL_step e hil hi.2.2 ?_⟩, by omega⟩⟩
      · rw [decide_eq_false (eqL_stop e hil ?_)]
        intro h'
        rw [h'] at h
        simp at h
      · have h' : (l[i].toNat : Int) = k[i].toNat := by simpa using h
        exact UInt8.toNat_inj.1 (by omega)
    · have ge := of_decide_eq_false ge
      rw [decide_eq_true (eqL_end e (by omega) hi.2.2)]
theorem o30 (m : Int) : SpecOk PQ (GQ m) 30 s30 := spec_of (X := XS3) (m := []) mixedQ tbl_nil itbl_nil fun args r h => by
 unfold s30 at h
 split at h
 case h_2 => cases h
 split at h
 case h_2 => cases h
 rename_i h1 h2
 split at h
 case isFalse => cases h
 rename_i hc
 injection h with h; subst h
 rw [unBytes_some h1, unBytes_some h2, hc.1, hc.2.1]
 exact ⟨_, p30 m _ _ hc.2.2⟩
theorem run30 {l k : List UInt8} (h : l.length ≤ 2000000) : s30 [.sl 1 (bytesL l) .no, .sl 1 (bytesL k) .no] = some (.bool (decide (l = k)), []) := by
 simp only [s30, unBytes_mk]
 rw [if_pos ⟨trivial, trivial, h⟩]
/-! Format -/
structure PRq where
 r : Rq
 a : Int
 c : Int
def prA (p : PRq) : AV := .tup [rqA p.r, .int .i64 p.a, .int .i64 p.c]
def shRq : Sh × Option TypeId := (.tup [.agg [.str, .sl 1 .no, .sl 3 .no, .int .i64, .int .i64], .one (.int .i64), .one (.int .i64)], none)
def XT : Shapes := fun f => match f with
 | 11 | 12 | 28 | 29 => some shRq
 | 10 | 13 | 16 | 30 => some shB
 | 14 | 15 => some shS
 | 31 | 32 => some shLax
 | _ => none
end Go.Abs
namespace Go.Wire
theorem uintL_length_pos (n : Nat) : 0 < (uintL n).length := by
 rw [uintL]; split <;> simp
end Go.Wire
namespace Go.Abs
open Go.Proofs Go.Wire
theorem s25_at {bs : List UInt8} {n : Int} {o : Own} (h : strOk bs) (hn : i64W n) : s25 [.sl 1 (bytesL bs) o, .int .i64 n] = some (ownR (bs ++ uintL (zig n))) := by
 simp only [s25, sBytesNum, onBytes, unBytes_mk, true_or, true_and, if_true, h, hn]
theorem s26_at {bs s : List UInt8} {o : Own} (h : strOk bs) (hn : strOk s) : s26 [.sl 1 (bytesL bs) o, .str s] = some (ownR (bs ++ textL s)) := by
 simp only [s26, onBytes, unBytes_mk, true_or, true_and, if_true, h, hn]
theorem s122_at {n : Int} (hn : i64W n) : s122 [.int .i64 n] = some (ownR (uintL (zig n))) := by
 simp only [s122, if_true, hn]
theorem s120_at {s : List UInt8} (hn : strOk s) : s120 [.str s] = some (ownR (textL s)) := by
 simp only [s120, if_true, hn]
theorem zig_len {n : Int} (h : i64W n) : (uintL (zig n)).length ≤ 10 := uintL_len10 (zig_lt h)
theorem uintL_ne (n : Nat) : uintL n ≠ [] := by
 have := uintL_length_pos n
 intro h; rw [h] at this; simp at this
end Go.Abs
namespace Go.Abs
open Go.Proofs
structure Tk where
 k : Int
 s : List UInt8
 a : Int
deriving DecidableEq
instance : Inhabited Tk := ⟨⟨0, [], 0⟩⟩
def tkA (t : Tk) : AV := .agg [.int .i64 t.k, .str t.s, .int .i64 t.a]
abbrev toksL (l : List Tk) : List AV := l.map tkA
def unTk : AV → Option Tk
 | .agg [.int .i64 k, .str s, .int .i64 a] => some ⟨k, s, a⟩
 | _ => none
theorem unTk_ok (x : Tk) : unTk (tkA x) = some x := rfl
def hdT : List AV → Tk
 | a :: _ => (unTk a).getD default
 | [] => default
def wrongV (a c : Int) : Value := .iface 88 (.agg #[.int .i64 a, .int .i64 c])
def numV (s : List UInt8) : Int := if valL s ≤ 9223372036854775807 then valL s else 1099511627777
/-! the plain parser: a syntax error is told by its place -/
def thn {α β : Type} (x : Except Int α) (f : α → Except Int β) : Except Int β :=
 match x with
 | .ok a => f a
 | .error e => .error e
def everyB (_ : List UInt8) : Bool := true
def nx (k : Int) (acc : List UInt8 → Bool) : List Tk → Except Int (List UInt8 × List Tk)
 | [] => .error 0
 | t :: l => if t.k = k ∧ acc t.s = true then .ok (t.s, if k = 6 then t :: l else l) else .error t.a
def num (ts : List Tk) : Except Int (Int × List Tk) := thn (nx 2 everyB ts) fun x => .ok (numV x.1, x.2)
def isCm : List Tk → Bool
 | t :: _ => decide (t.k = 5) && (t.s == [44])
 | [] => false
def isAtB : List Tk → Bool
 | t :: _ => decide (t.k = 1) && (t.s == [97, 116])
 | [] => false
def lab (ts : List Tk) : Except Int (Lb × List Tk) := thn (nx 4 everyB ts) fun x => thn (num x.2) fun y => thn (num y.2) fun z => .ok (⟨x.1, y.1, z.1⟩, z.2)
def moreF : List Tk → List (List UInt8) → Except Int (List (List UInt8) × List Tk)
 | t :: u :: l, fs => if isCm [t] then (if u.k = 1 ∧ nameR u.s = true then moreF l (fs ++ [u.s]) else .error u.a) else .ok (fs, t :: u :: l)
 | l, fs => .ok (fs, l)
def moreL : List Tk → List Lb → Except Int (List Lb × List Tk)
 | t :: a :: b :: c :: l, ls => if isCm [t] then (if a.k = 4 then (if b.k = 2 then (if c.k = 2 then moreL l (ls ++ [⟨a.s, numV b.s, numV c.s⟩]) else .error c.a) else .error b.a) else .error a.a) else .ok (ls, t :: a :: b :: c :: l)
 | [t, a, b], ls => if isCm [t] then (if a.k = 4 then .error b.a else .error a.a) else .ok (ls, [t, a, b])
 | [t, a], ls => if isCm [t] then .error a.a else .ok (ls, [t, a])
 | l, ls => .ok (ls, l)
def k21 (r : Rq) (ts : List Tk) : Except Int Rq := thn (nx 6 everyB ts) fun _ => .ok r
def kMl (r : Rq) (ts : List Tk) (ls : List Lb) : Except Int Rq := thn (moreL ts ls) fun x => k21 { r with labels := x.1 } x.2
def k20 (r : Rq) (ts : List Tk) : Except Int Rq := thn (lab ts) fun x => kMl r x.2 [x.1]
def k18 (r : Rq) (ts : List Tk) : Except Int Rq := if isAtB ts then k20 r ts.tail else k21 r ts
def k17 (r : Rq) (ts : List Tk) : Except Int Rq := thn (num ts) fun x => k18 { r with permille := x.1 } x.2
def k16 (r : Rq) (ts : List Tk) : Except Int Rq := thn (nx 1 (· == [107, 101, 101, 112]) ts) fun x => k17 r x.2
def k15 (r : Rq) (ts : List Tk) : Except Int Rq := thn (num ts) fun x => k16 { r with seed := x.1 } x.2
def k14 (r : Rq) (ts : List Tk) : Except Int Rq := thn (nx 1 (· == [115, 101, 101, 100]) ts) fun x => k15 r x.2
def kMf (r : Rq) (ts : List Tk) (fs : List (List UInt8)) : Except Int Rq := thn (moreF ts fs) fun x => k14 { r with feats := x.1 } x.2
def k13 (r : Rq) (ts : List Tk) : Except Int Rq := thn (nx 1 nameR ts) fun x => kMf r x.2 [x.1]
def k12 (r : Rq) (ts : List Tk) : Except Int Rq := thn (nx 1 (· == [116, 97, 107, 101]) ts) fun x => k13 r x.2
def k11 (ts : List Tk) : Except Int Rq := thn (nx 1 nameR ts) fun x => k12 ⟨x.1, [], [], 0, 0⟩ x.2
def parseTk (ts : List Tk) : Except Int Rq := thn (nx 1 (· == [111, 102]) ts) fun x => k11 x.2
def zRq : Rq := ⟨[], [], [], 0, 0⟩
def resP (x : Except Int Rq) : AV :=
 match x with
 | .error a => .tup [rqA zRq, .int .i64 a, .int .i64 90]
 | .ok r => if formB r then .tup [rqA r, .int .i64 0, .int .i64 0] else .tup [rqA zRq, .int .i64 0, .int .i64 240]
/-! specs of the scanner -/
def pS (b0 b1 b2 es : List AV) (lv : List (Nat × TypeId)) : St := ⟨[some b0, some b1, some b2, some [.sl 3 es .no], some [.ptr 3 0]], lv⟩
def pS6 (b0 b1 b2 es : List AV) (b5 : Option (List AV)) (lv : List (Nat × TypeId)) : St := ⟨[some b0, some b1, some b2, some [.sl 3 es .no], some [.ptr 3 0], b5], lv⟩
def oOk (n : Nat) : Option (List AV) → Prop
 | some l => l.all (AV.p1 n) = true
 | none => True
structure TokIn (es : List AV) : Prop where
 out : ∃ t l, es = toksL (t :: l)
def pOk (n : Nat) (l : List AV) : Prop := l.all (AV.p1 n) = true
def accS (g : FuncId) (w : List UInt8) : List UInt8 → Bool := if g = 40 then nameR else if g = 87 then (fun s => s == w) else everyB
def nextOuts (k : Int) (acc : List UInt8 → Bool) (es : List AV) (mk : List AV → St) : List POut :=
 [⟨(hdT es).k = k ∧ acc (hdT es).s = true, none, .str (hdT es).s, mk (if k = 6 then es else es.drop 1)⟩, ⟨¬ ((hdT es).k = k ∧ acc (hdT es).s = true), some (wrongV (hdT es).a 90), .tup [], mk es⟩]
def s39 : PSpec := fun args S => match args, S with
 | [.ptr 3 0, .int .i64 k, .fn g []], ⟨[some b0, some b1, some b2, some [.sl 3 es .no], some [.ptr 3 0]], lv⟩ =>
  if g = 40 ∨ g = 45 then some (TokIn es ∧ pOk 5 b0 ∧ pOk 5 b1 ∧ pOk 5 b2, nextOuts k (accS g []) es fun e => pS b0 b1 b2 e lv) else none
 | [.ptr 3 0, .int .i64 k, .fn g []], ⟨[some b0, some b1, some b2, some [.sl 3 es .no], some [.ptr 3 0], some b5], lv⟩ =>
  if g = 45 then some (TokIn es ∧ pOk 6 b0 ∧ pOk 6 b1 ∧ pOk 6 b2 ∧ pOk 6 b5, nextOuts k everyB es fun e => pS6 b0 b1 b2 e (some b5) lv) else none
 | [.ptr 3 0, .int .i64 k, .fn g []], ⟨[some b0, some b1, some b2, some [.sl 3 es .no], some [.ptr 3 0], none], lv⟩ =>
  if g = 45 then some (TokIn es ∧ pOk 6 b0 ∧ pOk 6 b1 ∧ pOk 6 b2, nextOuts k everyB es fun e => pS6 b0 b1 b2 e none lv) else none
 | [.ptr 3 0, .int .i64 k, .fn g [.ptr 5 0]], ⟨[some b0, some b1, some b2, some [.sl 3 es .no], some [.ptr 3 0], some [.str w]], lv⟩ =>
  if g = 87 then some (TokIn es ∧ pOk 6 b0 ∧ pOk 6 b1 ∧ pOk 6 b2, nextOuts k (fun s => s == w) es fun e => pS6 b0 b1 b2 e (some [.str w]) lv) else none
 | _, _ => none
def s38 : PSpec := fun args S => match args, S with
 | [.ptr 3 0, .str w], ⟨[some b0, some b1, some b2, some [.sl 3 es .no], some [.ptr 3 0]], lv⟩ =>
  some (TokIn es ∧ (pOk 5 b0 ∧ pOk 5 b1 ∧ pOk 5 b2) ∧ pOk 6 b0 ∧ pOk 6 b1 ∧ pOk 6 b2,
   [⟨(hdT es).k = 1 ∧ ((hdT es).s == w) = true, none, .tup [], pS b0 b1 b2 (es.drop 1) lv⟩, ⟨¬ ((hdT es).k = 1 ∧ ((hdT es).s == w) = true), some (wrongV (hdT es).a 90), .tup [], pS b0 b1 b2 es lv⟩])
 | _, _ => none
structure IntIn (es : List AV) : Prop where
 out : (hdT es).k = 2 → intB (hdT es).s = true ∧ (hdT es).s.length ≤ 1000000
def numOuts (es : List AV) (mk : List AV → St) : List POut :=
 [⟨(hdT es).k = 2, none, .int .i64 (numV (hdT es).s), mk (es.drop 1)⟩, ⟨(hdT es).k ≠ 2, some (wrongV (hdT es).a 90), .tup [], mk es⟩]
def s43 : PSpec := fun args S => match args, S with
 | [.ptr 3 0], ⟨[some b0, some b1, some b2, some [.sl 3 es .no], some [.ptr 3 0]], lv⟩ =>
  some (TokIn es ∧ IntIn es ∧ pOk 5 b0 ∧ pOk 5 b1 ∧ pOk 5 b2, numOuts es fun e => pS b0 b1 b2 e lv)
 | [.ptr 3 0], ⟨[some b0, some b1, some b2, some [.sl 3 es .no], some [.ptr 3 0], some b5], lv⟩ =>
  some (TokIn es ∧ IntIn es ∧ pOk 6 b0 ∧ pOk 6 b1 ∧ pOk 6 b2 ∧ pOk 6 b5, numOuts es fun e => pS6 b0 b1 b2 e (some b5) lv)
 | _, _ => none
def s45 : Spec := fun args => match args with
 | [.str _] => some (.bool true, [])
 | _ => none
def XN : Shapes := fun f => match f with
 | 40 | 45 | 46 | 87 => some shB
 | 89 => some (.tup [.one (.int .i64), .one .err], none)
 | _ => none
def tN : List (FuncId × Spec) := [(40, s40u), (45, s45), (89, s89)]
def J0 : InC := fun _ _ _ _ => False
def fsN (f : FuncId) : Bool := f = 38 || f = 39 || f = 43 || f = 42 || f = 44 || f = 41
def fsW (f : FuncId) : Bool := f = 87
def cfW (_ : FuncId) (_ : List AV) : PCfg := { ps := [], A := nAn }
def g39 : PCfg := { ps := [2, 3], A := nAn }
def g38 : PCfg := { ps := [1], A := nAn }
theorem w45 (m : Int) (s : List UInt8) (r : AV) : (pureW PQ (GQ m) XN (tbl []) (itbl []) nAn [] 45 [.str s] (r, [])) =
(RetIs (AV.bool true) [] (r, [])) := by kernel_rfl
abbrev w39ac1 (b0 : List AV) (b1 : List AV) (b2 : List AV) (t : Tk) (l : List Tk) : List (Option (List AV)) := [some b0, some b1, some b2, some [AV.sl 3 (toksL (t :: l)) Own.no], some [AV.ptr 3 0]]
theorem w39a (m : Int) (k : Int) (t : Tk) (l : List Tk) (b0 b1 b2 : List AV) (lv : List (Nat × TypeId)) (os : List POut) : (pnW PQ idMk (GQ m) XN (tbl tN) (itbl []) fsN J0 g39 39 [.ptr 3 0, .int .i64 k, .fn 40 []] (pS b0 b1 b2 (toksL (t :: l)) lv) os) =
(((0 : Int) ≤ (0 : Int) ∧ (0 : Int) < (↑(toksL (t :: l)).length : Int)) ∧ ∃ (n : Int), ∃ (s : List UInt8), ∃ (n_1 : Int), some (AV.agg [I6 t.k, AV.str t.s, I6 t.a]) = some (AV.agg [I6 n, AV.str s, I6 n_1]) ∧ ((n != k) = true → PEnd (AV.p2 5 (AV.tup []) && boxesOk 5 (w39ac1 b0 b1 b2 t l)) (some (Value.iface 88 (Value.agg #[Value.int IntKind.i64 n_1, Value.int IntKind.i64 90]))) (AV.tup []) { boxes := (w39ac1 b0 b1 b2 t l), live := lv } os) ∧ ((n != k) = false → ∃ (b : Bool), CallIs (some (AV.bool (nameR s), [])) (AV.bool b) [] ∧ (b = true → ((n != (6 : Int)) = true → (0 : Int) ≤ (1 : Int) ∧ ((1 : Nat) ≤ (toksL (t :: l)).length ∧ (toksL (t :: l)).length ≤ (toksL (t :: l)).length) ∧ ((3 : Nat) = (3 : Nat) ∨ toksL (t :: l) = []) ∧ PEnd (AV.p2 5 (AV.str s) && boxesOk 5 [some b0, some b1, some b2, some [AV.sl 3 (List.drop 1 (List.take (toksL (t :: l)).length (toksL (t :: l)))) Own.no], some [AV.ptr 3 0]]) none (AV.str s) { boxes := [some b0, some b1, some b2, some [AV.sl 3 (List.drop 1 (List.take (toksL (t :: l)).length (toksL (t :: l)))) Own.no], some [AV.ptr 3 0]], live := lv } os) ∧ ((n != (6 : Int)) = false → PEnd (AV.p2 5 (AV.str s) && boxesOk 5 (w39ac1 b0 b1 b2 t l)) none (AV.str s) { boxes := (w39ac1 b0 b1 b2 t l), live := lv } os)) ∧ (b = false → PEnd (AV.p2 5 (AV.tup []) && boxesOk 5 (w39ac1 b0 b1 b2 t l)) (some (Value.iface 88 (Value.agg #[Value.int IntKind.i64 n_1, Value.int IntKind.i64 90]))) (AV.tup []) { boxes := (w39ac1 b0 b1 b2 t l), live := lv } os))) := by kernel_rfl
abbrev w39bc1 (b0 : List AV) (b1 : List AV) (b2 : List AV) (t : Tk) (l : List Tk) : List (Option (List AV)) := [some b0, some b1, some b2, some [AV.sl 3 (toksL (t :: l)) Own.no], some [AV.ptr 3 0]]
theorem w39b (m : Int) (k : Int) (t : Tk) (l : List Tk) (b0 b1 b2 : List AV) (lv : List (Nat × TypeId)) (os : List POut) : (pnW PQ idMk (GQ m) XN (tbl tN) (itbl []) fsN J0 g39 39 [.ptr 3 0, .int .i64 k, .fn 45 []] (pS b0 b1 b2 (toksL (t :: l)) lv) os) =
(((0 : Int) ≤ (0 : Int) ∧ (0 : Int) < (↑(toksL (t :: l)).length : Int)) ∧ ∃ (n : Int), ∃ (s : List UInt8), ∃ (n_1 : Int), some (AV.agg [I6 t.k, AV.str t.s, I6 t.a]) = some (AV.agg [I6 n, AV.str s, I6 n_1]) ∧ ((n != k) = true → PEnd (AV.p2 5 (AV.tup []) && boxesOk 5 (w39bc1 b0 b1 b2 t l)) (some (Value.iface 88 (Value.agg #[Value.int IntKind.i64 n_1, Value.int IntKind.i64 90]))) (AV.tup []) { boxes := (w39bc1 b0 b1 b2 t l), live := lv } os) ∧ ((n != k) = false → ∃ (b : Bool), CallIs (some (AV.bool true, [])) (AV.bool b) [] ∧ (b = true → ((n != (6 : Int)) = true → (0 : Int) ≤ (1 : Int) ∧ ((1 : Nat) ≤ (toksL (t :: l)).length ∧ (toksL (t :: l)).length ≤ (toksL (t :: l)).length) ∧ ((3 : Nat) = (3 : Nat) ∨ toksL (t :: l) = []) ∧ PEnd (AV.p2 5 (AV.str s) && boxesOk 5 [some b0, some b1, some b2, some [AV.sl 3 (List.drop 1 (List.take (toksL (t :: l)).length (toksL (t :: l)))) Own.no], some [AV.ptr 3 0]]) none (AV.str s) { boxes := [some b0, some b1, some b2, some [AV.sl 3 (List.drop 1 (List.take (toksL (t :: l)).length (toksL (t :: l)))) Own.no], some [AV.ptr 3 0]], live := lv } os) ∧ ((n != (6 : Int)) = false → PEnd (AV.p2 5 (AV.str s) && boxesOk 5 (w39bc1 b0 b1 b2 t l)) none (AV.str s) { boxes := (w39bc1 b0 b1 b2 t l), live := lv } os)) ∧ (b = false → PEnd (AV.p2 5 (AV.tup []) && boxesOk 5 (w39bc1 b0 b1 b2 t l)) (some (Value.iface 88 (Value.agg #[Value.int IntKind.i64 n_1, Value.int IntKind.i64 90]))) (AV.tup []) { boxes := (w39bc1 b0 b1 b2 t l), live := lv } os))) := by kernel_rfl
abbrev w39cc1 (b0 : List AV) (b1 : List AV) (b2 : List AV) (t : Tk) (l : List Tk) (b5 : List AV) : List (Option (List AV)) := [some b0, some b1, some b2, some [AV.sl 3 (toksL (t :: l)) Own.no], some [AV.ptr 3 0], some b5]
theorem w39c (m : Int) (k : Int) (t : Tk) (l : List Tk) (b0 b1 b2 b5 : List AV) (lv : List (Nat × TypeId)) (os : List POut) : (pnW PQ idMk (GQ m) XN (tbl tN) (itbl []) fsN J0 g39 39 [.ptr 3 0, .int .i64 k, .fn 45 []] (pS6 b0 b1 b2 (toksL (t :: l)) (some b5) lv) os) =
(((0 : Int) ≤ (0 : Int) ∧ (0 : Int) < (↑(toksL (t :: l)).length : Int)) ∧ ∃ (n : Int), ∃ (s : List UInt8), ∃ (n_1 : Int), some (AV.agg [I6 t.k, AV.str t.s, I6 t.a]) = some (AV.agg [I6 n, AV.str s, I6 n_1]) ∧ ((n != k) = true → PEnd (AV.p2 6 (AV.tup []) && boxesOk 6 (w39cc1 b0 b1 b2 t l b5)) (some (Value.iface 88 (Value.agg #[Value.int IntKind.i64 n_1, Value.int IntKind.i64 90]))) (AV.tup []) { boxes := (w39cc1 b0 b1 b2 t l b5), live := lv } os) ∧ ((n != k) = false → ∃ (b : Bool), CallIs (some (AV.bool true, [])) (AV.bool b) [] ∧ (b = true → ((n != (6 : Int)) = true → (0 : Int) ≤ (1 : Int) ∧ ((1 : Nat) ≤ (toksL (t :: l)).length ∧ (toksL (t :: l)).length ≤ (toksL (t :: l)).length) ∧ ((3 : Nat) = (3 : Nat) ∨ toksL (t :: l) = []) ∧ PEnd (AV.p2 6 (AV.str s) && boxesOk 6 [some b0, some b1, some b2, some [AV.sl 3 (List.drop 1 (List.take (toksL (t :: l)).length (toksL (t :: l)))) Own.no], some [AV.ptr 3 0], some b5]) none (AV.str s) { boxes := [some b0, some b1, some b2, some [AV.sl 3 (List.drop 1 (List.take (toksL (t :: l)).length (toksL (t :: l)))) Own.no], some [AV.ptr 3 0], some b5], live := lv } os) ∧ ((n != (6 : Int)) = false → PEnd (AV.p2 6 (AV.str s) && boxesOk 6 (w39cc1 b0 b1 b2 t l b5)) none (AV.str s) { boxes := (w39cc1 b0 b1 b2 t l b5), live := lv } os)) ∧ (b = false → PEnd (AV.p2 6 (AV.tup []) && boxesOk 6 (w39cc1 b0 b1 b2 t l b5)) (some (Value.iface 88 (Value.agg #[Value.int IntKind.i64 n_1, Value.int IntKind.i64 90]))) (AV.tup []) { boxes := (w39cc1 b0 b1 b2 t l b5), live := lv } os))) := by kernel_rfl
abbrev w39ec1 (b0 : List AV) (b1 : List AV) (b2 : List AV) (t : Tk) (l : List Tk) : List (Option (List AV)) := [some b0, some b1, some b2, some [AV.sl 3 (toksL (t :: l)) Own.no], some [AV.ptr 3 0], none]
theorem w39e (m : Int) (k : Int) (t : Tk) (l : List Tk) (b0 b1 b2 : List AV) (lv : List (Nat × TypeId)) (os : List POut) : (pnW PQ idMk (GQ m) XN (tbl tN) (itbl []) fsN J0 g39 39 [.ptr 3 0, .int .i64 k, .fn 45 []] (pS6 b0 b1 b2 (toksL (t :: l)) none lv) os) =
(((0 : Int) ≤ (0 : Int) ∧ (0 : Int) < (↑(toksL (t :: l)).length : Int)) ∧ ∃ (n : Int), ∃ (s : List UInt8), ∃ (n_1 : Int), some (AV.agg [I6 t.k, AV.str t.s, I6 t.a]) = some (AV.agg [I6 n, AV.str s, I6 n_1]) ∧ ((n != k) = true → PEnd (AV.p2 6 (AV.tup []) && boxesOk 6 (w39ec1 b0 b1 b2 t l)) (some (Value.iface 88 (Value.agg #[Value.int IntKind.i64 n_1, Value.int IntKind.i64 90]))) (AV.tup []) { boxes := (w39ec1 b0 b1 b2 t l), live := lv } os) ∧ ((n != k) = false → ∃ (b : Bool), CallIs (some (AV.bool true, [])) (AV.bool b) [] ∧ (b = true → ((n != (6 : Int)) = true → (0 : Int) ≤ (1 : Int) ∧ ((1 : Nat) ≤ (toksL (t :: l)).length ∧ (toksL (t :: l)).length ≤ (toksL (t :: l)).length) ∧ ((3 : Nat) = (3 : Nat) ∨ toksL (t :: l) = []) ∧ PEnd (AV.p2 6 (AV.str s) && boxesOk 6 [some b0, some b1, some b2, some [AV.sl 3 (List.drop 1 (List.take (toksL (t :: l)).length (toksL (t :: l)))) Own.no], some [AV.ptr 3 0], none]) none (AV.str s) { boxes := [some b0, some b1, some b2, some [AV.sl 3 (List.drop 1 (List.take (toksL (t :: l)).length (toksL (t :: l)))) Own.no], some [AV.ptr 3 0], none], live := lv } os) ∧ ((n != (6 : Int)) = false → PEnd (AV.p2 6 (AV.str s) && boxesOk 6 (w39ec1 b0 b1 b2 t l)) none (AV.str s) { boxes := (w39ec1 b0 b1 b2 t l), live := lv } os)) ∧ (b = false → PEnd (AV.p2 6 (AV.tup []) && boxesOk 6 (w39ec1 b0 b1 b2 t l)) (some (Value.iface 88 (Value.agg #[Value.int IntKind.i64 n_1, Value.int IntKind.i64 90]))) (AV.tup []) { boxes := (w39ec1 b0 b1 b2 t l), live := lv } os))) := by kernel_rfl
abbrev w39dc1 (b0 : List AV) (b1 : List AV) (b2 : List AV) (t : Tk) (l : List Tk) (w : List UInt8) : List (Option (List AV)) := [some b0, some b1, some b2, some [AV.sl 3 (toksL (t :: l)) Own.no], some [AV.ptr 3 0], some [AV.str w]]
theorem w39d (m : Int) (k : Int) (w : List UInt8) (t : Tk) (l : List Tk) (b0 b1 b2 : List AV) (lv : List (Nat × TypeId)) (os : List POut) : (pnW PQ idMk (GQ m) XN (tbl tN) (itbl []) fsW (inW PQ idMk (GQ m) XN (tbl []) (itbl []) fsW cfW 1) g39 39 [.ptr 3 0, .int .i64 k, .fn 87 [.ptr 5 0]] (pS6 b0 b1 b2 (toksL (t :: l)) (some [.str w]) lv) os) =
(((0 : Int) ≤ (0 : Int) ∧ (0 : Int) < (↑(toksL (t :: l)).length : Int)) ∧ ∃ (n : Int), ∃ (s : List UInt8), ∃ (n_1 : Int), some (AV.agg [I6 t.k, AV.str t.s, I6 t.a]) = some (AV.agg [I6 n, AV.str s, I6 n_1]) ∧ ((n != k) = true → PEnd (AV.p2 6 (AV.tup []) && boxesOk 6 (w39dc1 b0 b1 b2 t l w)) (some (Value.iface 88 (Value.agg #[Value.int IntKind.i64 n_1, Value.int IntKind.i64 90]))) (AV.tup []) { boxes := (w39dc1 b0 b1 b2 t l w), live := lv } os) ∧ ((n != k) = false → ((s == w) = true → ((n != (6 : Int)) = true → (0 : Int) ≤ (1 : Int) ∧ ((1 : Nat) ≤ (toksL (t :: l)).length ∧ (toksL (t :: l)).length ≤ (toksL (t :: l)).length) ∧ ((3 : Nat) = (3 : Nat) ∨ toksL (t :: l) = []) ∧ PEnd (AV.p2 6 (AV.str s) && boxesOk 6 [some b0, some b1, some b2, some [AV.sl 3 (List.drop 1 (List.take (toksL (t :: l)).length (toksL (t :: l)))) Own.no], some [AV.ptr 3 0], some [AV.str w]]) none (AV.str s) { boxes := [some b0, some b1, some b2, some [AV.sl 3 (List.drop 1 (List.take (toksL (t :: l)).length (toksL (t :: l)))) Own.no], some [AV.ptr 3 0], some [AV.str w]], live := lv } os) ∧ ((n != (6 : Int)) = false → PEnd (AV.p2 6 (AV.str s) && boxesOk 6 (w39dc1 b0 b1 b2 t l w)) none (AV.str s) { boxes := (w39dc1 b0 b1 b2 t l w), live := lv } os)) ∧ ((s == w) = false → PEnd (AV.p2 6 (AV.tup []) && boxesOk 6 (w39dc1 b0 b1 b2 t l w)) (some (Value.iface 88 (Value.agg #[Value.int IntKind.i64 n_1, Value.int IntKind.i64 90]))) (AV.tup []) { boxes := (w39dc1 b0 b1 b2 t l w), live := lv } os))) := by kernel_rfl
theorem w38 (m : Int) (w : List UInt8) (t : Tk) (l : List Tk) (b0 b1 b2 : List AV) (lv : List (Nat × TypeId)) (os : List POut) : (pnW PQ idMk (GQ m) XN (tbl tN) (itbl []) fsN (ptbl [(39, s39)] J0) g38 38 [.ptr 3 0, .str w] (pS b0 b1 b2 (toksL (t :: l)) lv) os) =
((TokIn (toksL (t :: l)) ∧ b0.all (AV.p1 6) = true ∧ b1.all (AV.p1 6) = true ∧ b2.all (AV.p1 6) = true) ∧ ((hdT (toksL (t :: l))).k = (1 : Int) ∧ ((hdT (toksL (t :: l))).s == w) = true → PEnd (AV.p2 5 (AV.tup []) && boxesOk 5 [some b0, some b1, some b2, some [AV.sl 3 (if (1 : Int) = (6 : Int) then toksL (t :: l) else List.drop 1 (toksL (t :: l))) Own.no], some [AV.ptr 3 0]]) none (AV.tup []) { boxes := [some b0, some b1, some b2, some [AV.sl 3 (if (1 : Int) = (6 : Int) then toksL (t :: l) else List.drop 1 (toksL (t :: l))) Own.no], some [AV.ptr 3 0]], live := lv } os) ∧ (((hdT (toksL (t :: l))).k = (1 : Int) ∧ ((hdT (toksL (t :: l))).s == w) = true → False) → PEnd (AV.p2 5 (AV.tup []) && boxesOk 5 [some b0, some b1, some b2, some [AV.sl 3 (toksL (t :: l)) Own.no], some [AV.ptr 3 0]]) (some (Value.iface 88 (Value.agg #[Value.int IntKind.i64 (hdT (toksL (t :: l))).a, Value.int IntKind.i64 90]))) (AV.tup []) { boxes := [some b0, some b1, some b2, some [AV.sl 3 (toksL (t :: l)) Own.no], some [AV.ptr 3 0]], live := lv } os) ∧ True) := by kernel_rfl
abbrev w43ac1 (b0 : List AV) (b1 : List AV) (b2 : List AV) (t : Tk) (l : List Tk) : List (Option (List AV)) := [some b0, some b1, some b2, some [AV.sl 3 (if (2 : Int) = (6 : Int) then toksL (t :: l) else List.drop 1 (toksL (t :: l))) Own.no], some [AV.ptr 3 0]]
abbrev w43ac2 := AV.int IntKind.i64 (1099511627777 : Int)
theorem w43a (m : Int) (t : Tk) (l : List Tk) (b0 b1 b2 : List AV) (lv : List (Nat × TypeId)) (os : List POut) : (pnW PQ idMk (GQ m) XN (tbl tN) (itbl []) fsN (ptbl [(39, s39)] J0) g38 43 [.ptr 3 0] (pS b0 b1 b2 (toksL (t :: l)) lv) os) =
((TokIn (toksL (t :: l)) ∧ b0.all (AV.p1 5) = true ∧ b1.all (AV.p1 5) = true ∧ b2.all (AV.p1 5) = true) ∧ ((hdT (toksL (t :: l))).k = (2 : Int) ∧ accS 45 [] (hdT (toksL (t :: l))).s = true → ∃ (n : Int), CallIs (tbl [(40, s40u), (45, s45), (89, s89)] 89 [AV.str (hdT (toksL (t :: l))).s]) (AV.tup [I6 n, AV.ifc]) [] ∧ (true = true → PEnd (AV.p2 5 w43ac2 && boxesOk 5 (w43ac1 b0 b1 b2 t l)) none w43ac2 { boxes := (w43ac1 b0 b1 b2 t l), live := lv } os) ∧ (true = false → PEnd (AV.p2 5 (I6 n) && boxesOk 5 (w43ac1 b0 b1 b2 t l)) none (I6 n) { boxes := (w43ac1 b0 b1 b2 t l), live := lv } os) ∨ CallIs (tbl [(40, s40u), (45, s45), (89, s89)] 89 [AV.str (hdT (toksL (t :: l))).s]) (AV.tup [I6 n, AV.lit Value.nilIface]) [] ∧ (false = true → PEnd (AV.p2 5 w43ac2 && boxesOk 5 (w43ac1 b0 b1 b2 t l)) none w43ac2 { boxes := (w43ac1 b0 b1 b2 t l), live := lv } os) ∧ (false = false → PEnd (AV.p2 5 (I6 n) && boxesOk 5 (w43ac1 b0 b1 b2 t l)) none (I6 n) { boxes := (w43ac1 b0 b1 b2 t l), live := lv } os)) ∧ (((hdT (toksL (t :: l))).k = (2 : Int) ∧ accS 45 [] (hdT (toksL (t :: l))).s = true → False) → PEnd (AV.p2 5 (AV.tup []) && boxesOk 5 [some b0, some b1, some b2, some [AV.sl 3 (toksL (t :: l)) Own.no], some [AV.ptr 3 0]]) (some (Value.iface 88 (Value.agg #[Value.int IntKind.i64 (hdT (toksL (t :: l))).a, Value.int IntKind.i64 90]))) (AV.tup []) { boxes := [some b0, some b1, some b2, some [AV.sl 3 (toksL (t :: l)) Own.no], some [AV.ptr 3 0]], live := lv } os) ∧ True) := by kernel_rfl
abbrev w43bc1 (b0 : List AV) (b1 : List AV) (b2 : List AV) (t : Tk) (l : List Tk) (b5 : List AV) : List (Option (List AV)) := [some b0, some b1, some b2, some [AV.sl 3 (if (2 : Int) = (6 : Int) then toksL (t :: l) else List.drop 1 (toksL (t :: l))) Own.no], some [AV.ptr 3 0], some b5]
abbrev w43bc2 := AV.int IntKind.i64 (1099511627777 : Int)
theorem w43b (m : Int) (t : Tk) (l : List Tk) (b0 b1 b2 b5 : List AV) (lv : List (Nat × TypeId)) (os : List POut) : (pnW PQ idMk (GQ m) XN (tbl tN) (itbl []) fsN (ptbl [(39, s39)] J0) g38 43 [.ptr 3 0] (pS6 b0 b1 b2 (toksL (t :: l)) (some b5) lv) os) =
((TokIn (toksL (t :: l)) ∧ b0.all (AV.p1 6) = true ∧ b1.all (AV.p1 6) = true ∧ b2.all (AV.p1 6) = true ∧ b5.all (AV.p1 6) = true) ∧ ((hdT (toksL (t :: l))).k = (2 : Int) ∧ everyB (hdT (toksL (t :: l))).s = true → ∃ (n : Int), CallIs (tbl [(40, s40u), (45, s45), (89, s89)] 89 [AV.str (hdT (toksL (t :: l))).s]) (AV.tup [I6 n, AV.ifc]) [] ∧ (true = true → PEnd (AV.p2 6 w43bc2 && boxesOk 6 (w43bc1 b0 b1 b2 t l b5)) none w43bc2 { boxes := (w43bc1 b0 b1 b2 t l b5), live := lv } os) ∧ (true = false → PEnd (AV.p2 6 (I6 n) && boxesOk 6 (w43bc1 b0 b1 b2 t l b5)) none (I6 n) { boxes := (w43bc1 b0 b1 b2 t l b5), live := lv } os) ∨ CallIs (tbl [(40, s40u), (45, s45), (89, s89)] 89 [AV.str (hdT (toksL (t :: l))).s]) (AV.tup [I6 n, AV.lit Value.nilIface]) [] ∧ (false = true → PEnd (AV.p2 6 w43bc2 && boxesOk 6 (w43bc1 b0 b1 b2 t l b5)) none w43bc2 { boxes := (w43bc1 b0 b1 b2 t l b5), live := lv } os) ∧ (false = false → PEnd (AV.p2 6 (I6 n) && boxesOk 6 (w43bc1 b0 b1 b2 t l b5)) none (I6 n) { boxes := (w43bc1 b0 b1 b2 t l b5), live := lv } os)) ∧ (((hdT (toksL (t :: l))).k = (2 : Int) ∧ everyB (hdT (toksL (t :: l))).s = true → False) → PEnd (AV.p2 6 (AV.tup []) && boxesOk 6 [some b0, some b1, some b2, some [AV.sl 3 (toksL (t :: l)) Own.no], some [AV.ptr 3 0], some b5]) (some (Value.iface 88 (Value.agg #[Value.int IntKind.i64 (hdT (toksL (t :: l))).a, Value.int IntKind.i64 90]))) (AV.tup []) { boxes := [some b0, some b1, some b2, some [AV.sl 3 (toksL (t :: l)) Own.no], some [AV.ptr 3 0], some b5], live := lv } os) ∧ True) := by kernel_rfl
theorem bOk5 {b0 b1 b2 es : List AV} (h0 : pOk 5 b0) (h1 : pOk 5 b1) (h2 : pOk 5 b2) : boxesOk 5 [some b0, some b1, some b2, some [.sl 3 es .no], some [.ptr 3 0]] = true := by
 unfold pOk at h0 h1 h2
 simp only [boxesOk, h0, h1, h2, Bool.or_true, Bool.true_and]
 rfl
theorem bOk6 {b0 b1 b2 es : List AV} {b5 : Option (List AV)} (h0 : pOk 6 b0) (h1 : pOk 6 b1) (h2 : pOk 6 b2) (h5 : oOk 6 b5) : boxesOk 6 [some b0, some b1, some b2, some [.sl 3 es .no], some [.ptr 3 0], b5] = true := by
 unfold pOk at h0 h1 h2
 cases b5 with
 | none =>
  simp only [boxesOk, h0, h1, h2, Bool.or_true, Bool.true_and]
  rfl
 | some c =>
  have h5 : c.all (AV.p1 6) = true := h5
  simp only [boxesOk, h0, h1, h2, h5, Bool.or_true, Bool.true_and]
  rfl
theorem drop_tok (t : Tk) (l : List Tk) : List.drop 1 (List.take (toksL (t :: l)).length (toksL (t :: l))) = toksL l := by
 rw [List.take_length]; rfl
theorem p45 (m : Int) (s : List UInt8) : PureOk PQ (GQ m) XN (tbl []) (itbl []) nAn [] 45 [.str s] (.bool true, []) := by
 constructor
 rw [w45]
 exact ⟨rfl⟩
theorem o45 (m : Int) : SpecOk PQ (GQ m) 45 s45 := spec_of (X := XN) (m := []) mixedQ tbl_nil itbl_nil fun args r h => by
 unfold s45 at h
 split at h
 case h_2 => cases h
 injection h with h; subst h
 exact ⟨_, p45 m _⟩
theorem tN_ok (m : Int) : CalleeOk PQ (GQ m) (tbl tN) := tbl_cons (o40u m) (tbl_cons (o45 m) (tbl_cons (o89 m) tbl_nil))
theorem J0_ok {P : Program} {G : Glob} {fs : FuncId → Bool} : InOk P G fs J0 := fun _ _ _ _ _ h => h.elim
theorem good_end {k : Int} {acc : List UInt8 → Bool} {t : Tk} {l : List Tk} {mk : List AV → St} {ok : Bool} {S : St} (hok : ok = true) (hk : (t.k != k) = false) (ha : acc t.s = true) (hS : mk (if k = 6 then toksL (t :: l) else toksL l) = S) : PEnd ok none (.str t.s) S (nextOuts k acc (toksL (t :: l)) mk) :=
 ⟨hok, _, List.mem_cons_self, ⟨by simpa [hdT, unTk_ok] using hk, ha⟩, rfl, rfl, hS⟩
theorem bad_end {k : Int} {acc : List UInt8 → Bool} {t : Tk} {l : List Tk} {mk : List AV → St} {ok : Bool} {S : St} (hok : ok = true) (hk : (t.k != k) = true ∨ acc t.s = false) (hS : mk (toksL (t :: l)) = S) : PEnd ok (some (wrongV t.a 90)) (.tup []) S (nextOuts k acc (toksL (t :: l)) mk) :=
 have hn : ¬ ((hdT (toksL (t :: l))).k = k ∧ acc (hdT (toksL (t :: l))).s = true) := fun hh => by
  have h1 : t.k = k := hh.1
  have h2 : acc t.s = true := hh.2
  rcases hk with hk | hk
  ·simp [h1] at hk
  ·rw [h2] at hk; exact absurd hk (by simp)
 ⟨hok, _, List.mem_cons_of_mem _ List.mem_cons_self, hn, rfl, rfl, hS⟩
theorem len_tok (t : Tk) (l : List Tk) : (0 : Int) < ((toksL (t :: l)).length : Int) := by simp only [List.map_cons, List.length_cons]; omega
theorem len_tok1 (t : Tk) (l : List Tk) : 1 ≤ (toksL (t :: l)).length := by simp
theorem p39a (m : Int) (k : Int) (t : Tk) (l : List Tk) (b0 b1 b2 : List AV) (lv : List (Nat × TypeId)) (h0 : pOk 5 b0) (h1 : pOk 5 b1) (h2 : pOk 5 b2) : PnOk PQ (GQ m) XN (tbl tN) (itbl []) fsN J0 g39 39 [.ptr 3 0, .int .i64 k, .fn 40 []] (pS b0 b1 b2 (toksL (t :: l)) lv) (nextOuts k nameR (toksL (t :: l)) fun e => pS b0 b1 b2 e lv) := by
 constructor
 rw [w39a]; unfold w39ac1 I6
 have hb : ∀ es, boxesOk 5 [some b0, some b1, some b2, some [.sl 3 es .no], some [.ptr 3 0]] = true := fun es => bOk5 h0 h1 h2
 refine ⟨⟨Int.le_refl _, len_tok t l⟩, _, _, _, rfl, fun c => bad_end (by rw [hb]; rfl) (.inl c) rfl, fun c => ⟨_, ⟨rfl⟩, fun d => ⟨fun e => ⟨by omega, ⟨len_tok1 t l, Nat.le_refl _⟩, .inl rfl, good_end (by rw [hb]; rfl) c d ?_⟩, fun e => good_end (by rw [hb]; rfl) c d ?_⟩, fun d => bad_end (by rw [hb]; rfl) (.inr d) rfl⟩⟩
 ·have : k ≠ 6 := by rintro rfl; simp only [bne_iff_ne, ne_eq, bne_eq_false_iff_eq] at c e; exact e c
  rw [if_neg this, drop_tok]; rfl
 ·have : k = 6 := by simp only [bne_eq_false_iff_eq] at c e; rw [← c, e]
  rw [if_pos this]; rfl
theorem p39b (m : Int) (k : Int) (t : Tk) (l : List Tk) (b0 b1 b2 : List AV) (lv : List (Nat × TypeId)) (h0 : pOk 5 b0) (h1 : pOk 5 b1) (h2 : pOk 5 b2) : PnOk PQ (GQ m) XN (tbl tN) (itbl []) fsN J0 g39 39 [.ptr 3 0, .int .i64 k, .fn 45 []] (pS b0 b1 b2 (toksL (t :: l)) lv) (nextOuts k everyB (toksL (t :: l)) fun e => pS b0 b1 b2 e lv) := by
 constructor
 rw [w39b]; unfold w39bc1 I6
 have hb : ∀ es, boxesOk 5 [some b0, some b1, some b2, some [.sl 3 es .no], some [.ptr 3 0]] = true := fun es => bOk5 h0 h1 h2
 refine ⟨⟨Int.le_refl _, len_tok t l⟩, _, _, _, rfl, fun c => bad_end (by rw [hb]; rfl) (.inl c) rfl, fun c => ⟨_, ⟨rfl⟩, fun d => ⟨fun e => ⟨by omega, ⟨len_tok1 t l, Nat.le_refl _⟩, .inl rfl, good_end (by rw [hb]; rfl) c rfl ?_⟩, fun e => good_end (by rw [hb]; rfl) c rfl ?_⟩, nofun⟩⟩
 ·have : k ≠ 6 := by rintro rfl; simp only [bne_iff_ne, ne_eq, bne_eq_false_iff_eq] at c e; exact e c
  rw [if_neg this, drop_tok]; rfl
 ·have : k = 6 := by simp only [bne_eq_false_iff_eq] at c e; rw [← c, e]
  rw [if_pos this]; rfl
theorem p39c (m : Int) (k : Int) (t : Tk) (l : List Tk) (b0 b1 b2 b5 : List AV) (lv : List (Nat × TypeId)) (h0 : pOk 6 b0) (h1 : pOk 6 b1) (h2 : pOk 6 b2) (h5 : pOk 6 b5) : PnOk PQ (GQ m) XN (tbl tN) (itbl []) fsN J0 g39 39 [.ptr 3 0, .int .i64 k, .fn 45 []] (pS6 b0 b1 b2 (toksL (t :: l)) (some b5) lv) (nextOuts k everyB (toksL (t :: l)) fun e => pS6 b0 b1 b2 e (some b5) lv) := by
 constructor
 rw [w39c]; unfold w39cc1 I6
 have hb : ∀ es, boxesOk 6 [some b0, some b1, some b2, some [.sl 3 es .no], some [.ptr 3 0], some b5] = true := fun es => bOk6 h0 h1 h2 h5
 refine ⟨⟨Int.le_refl _, len_tok t l⟩, _, _, _, rfl, fun c => bad_end (by rw [hb]; rfl) (.inl c) rfl, fun c => ⟨_, ⟨rfl⟩, fun d => ⟨fun e => ⟨by omega, ⟨len_tok1 t l, Nat.le_refl _⟩, .inl rfl, good_end (by rw [hb]; rfl) c rfl ?_⟩, fun e => good_end (by rw [hb]; rfl) c rfl ?_⟩, nofun⟩⟩
 ·have : k ≠ 6 := by rintro rfl; simp only [bne_iff_ne, ne_eq, bne_eq_false_iff_eq] at c e; exact e c
  rw [if_neg this, drop_tok]; rfl
 ·have : k = 6 := by simp only [bne_eq_false_iff_eq] at c e; rw [← c, e]
  rw [if_pos this]; rfl
theorem p39e (m : Int) (k : Int) (t : Tk) (l : List Tk) (b0 b1 b2 : List AV) (lv : List (Nat × TypeId)) (h0 : pOk 6 b0) (h1 : pOk 6 b1) (h2 : pOk 6 b2) : PnOk PQ (GQ m) XN (tbl tN) (itbl []) fsN J0 g39 39 [.ptr 3 0, .int .i64 k, .fn 45 []] (pS6 b0 b1 b2 (toksL (t :: l)) none lv) (nextOuts k everyB (toksL (t :: l)) fun e => pS6 b0 b1 b2 e none lv) := by
 constructor
 rw [w39e]; unfold w39ec1 I6
 have hb : ∀ es, boxesOk 6 [some b0, some b1, some b2, some [.sl 3 es .no], some [.ptr 3 0], none] = true := fun es => bOk6 h0 h1 h2 trivial
 refine ⟨⟨Int.le_refl _, len_tok t l⟩, _, _, _, rfl, fun c => bad_end (by rw [hb]; rfl) (.inl c) rfl, fun c => ⟨_, ⟨rfl⟩, fun d => ⟨fun e => ⟨by omega, ⟨len_tok1 t l, Nat.le_refl _⟩, .inl rfl, good_end (by rw [hb]; rfl) c rfl ?_⟩, fun e => good_end (by rw [hb]; rfl) c rfl ?_⟩, nofun⟩⟩
 ·have : k ≠ 6 := by rintro rfl; simp only [bne_iff_ne, ne_eq, bne_eq_false_iff_eq] at c e; exact e c
  rw [if_neg this, drop_tok]; rfl
 ·have : k = 6 := by simp only [bne_eq_false_iff_eq] at c e; rw [← c, e]
  rw [if_pos this]; rfl
theorem p39d (m : Int) (k : Int) (w : List UInt8) (t : Tk) (l : List Tk) (b0 b1 b2 : List AV) (lv : List (Nat × TypeId)) (h0 : pOk 6 b0) (h1 : pOk 6 b1) (h2 : pOk 6 b2) : PnOk PQ (GQ m) XN (tbl tN) (itbl []) fsW (inW PQ idMk (GQ m) XN (tbl []) (itbl []) fsW cfW 1) g39 39 [.ptr 3 0, .int .i64 k, .fn 87 [.ptr 5 0]] (pS6 b0 b1 b2 (toksL (t :: l)) (some [.str w]) lv) (nextOuts k (fun s => s == w) (toksL (t :: l)) fun e => pS6 b0 b1 b2 e (some [.str w]) lv) := by
 constructor
 rw [w39d]; unfold w39dc1 I6
 have hb : ∀ es, boxesOk 6 [some b0, some b1, some b2, some [.sl 3 es .no], some [.ptr 3 0], some [.str w]] = true := fun es => bOk6 h0 h1 h2 rfl
 refine ⟨⟨Int.le_refl _, len_tok t l⟩, _, _, _, rfl, fun c => bad_end (by rw [hb]; rfl) (.inl c) rfl, fun c => ⟨fun d => ⟨fun e => ⟨by omega, ⟨len_tok1 t l, Nat.le_refl _⟩, .inl rfl, good_end (by rw [hb]; rfl) c d ?_⟩, fun e => good_end (by rw [hb]; rfl) c d ?_⟩, fun d => bad_end (by rw [hb]; rfl) (.inr d) rfl⟩⟩
 ·have : k ≠ 6 := by rintro rfl; simp only [bne_iff_ne, ne_eq, bne_eq_false_iff_eq] at c e; exact e c
  rw [if_neg this, drop_tok]; rfl
 ·have : k = 6 := by simp only [bne_eq_false_iff_eq] at c e; rw [← c, e]
  rw [if_pos this]; rfl
theorem o39 (m : Int) : PSpecOk PQ (GQ m) 39 s39 := pspec_of mixedQ fun args S p os h hp => by
 unfold s39 at h
 split at h
 case h_5 => cases h
 case h_1 =>
  split at h
  case isFalse => cases h
  rename_i hg
  injection h with h
  injection h with e1 e2
  subst e1; subst e2
  obtain ⟨⟨t, l, rfl⟩, h0, h1, h2⟩ := hp
  rcases hg with rfl | rfl
  ·exact ⟨_, _, _, _, _, _, tN_ok m, itbl_nil, J0_ok, p39a m _ t l _ _ _ _ h0 h1 h2⟩
  ·exact ⟨_, _, _, _, _, _, tN_ok m, itbl_nil, J0_ok, p39b m _ t l _ _ _ _ h0 h1 h2⟩
 case h_2 =>
  split at h
  case isFalse => cases h
  rename_i hg
  subst hg
  injection h with h
  injection h with e1 e2
  subst e1; subst e2
  obtain ⟨⟨t, l, rfl⟩, h0, h1, h2, h5⟩ := hp
  exact ⟨_, _, _, _, _, _, tN_ok m, itbl_nil, J0_ok, p39c m _ t l _ _ _ _ _ h0 h1 h2 h5⟩
 case h_3 =>
  split at h
  case isFalse => cases h
  rename_i hg
  subst hg
  injection h with h
  injection h with e1 e2
  subst e1; subst e2
  obtain ⟨⟨t, l, rfl⟩, h0, h1, h2⟩ := hp
  exact ⟨_, _, _, _, _, _, tN_ok m, itbl_nil, J0_ok, p39e m _ t l _ _ _ _ h0 h1 h2⟩
 case h_4 =>
  split at h
  case isFalse => cases h
  rename_i hg
  subst hg
  injection h with h
  injection h with e1 e2
  subst e1; subst e2
  obtain ⟨⟨t, l, rfl⟩, h0, h1, h2⟩ := hp
  exact ⟨_, _, _, _, _, _, tN_ok m, itbl_nil, inW_ok mixedQ tbl_nil itbl_nil 1, p39d m _ _ t l _ _ _ _ h0 h1 h2⟩
theorem p38 (m : Int) (w : List UInt8) (t : Tk) (l : List Tk) (b0 b1 b2 : List AV) (lv : List (Nat × TypeId)) (h0 : pOk 5 b0) (h1 : pOk 5 b1) (h2 : pOk 5 b2) (g0 : pOk 6 b0) (g1 : pOk 6 b1) (g2 : pOk 6 b2) : PnOk PQ (GQ m) XN (tbl tN) (itbl []) fsN (ptbl [(39, s39)] J0) g38 38 [.ptr 3 0, .str w] (pS b0 b1 b2 (toksL (t :: l)) lv)
  [⟨t.k = 1 ∧ (t.s == w) = true, none, .tup [], pS b0 b1 b2 (toksL l) lv⟩, ⟨¬ (t.k = 1 ∧ (t.s == w) = true), some (wrongV t.a 90), .tup [], pS b0 b1 b2 (toksL (t :: l)) lv⟩] := by
 constructor
 rw [w38]
 have hb : ∀ es, boxesOk 5 [some b0, some b1, some b2, some [.sl 3 es .no], some [.ptr 3 0]] = true := fun es => bOk5 h0 h1 h2
 refine ⟨⟨⟨t, l, rfl⟩, g0, g1, g2⟩, fun h => ⟨by rw [hb]; rfl, _, List.mem_cons_self, h, rfl, rfl, rfl⟩, fun h => ⟨by rw [hb]; rfl, _, List.mem_cons_of_mem _ List.mem_cons_self, h, rfl, rfl, rfl⟩, trivial⟩
theorem o38 (m : Int) : PSpecOk PQ (GQ m) 38 s38 := pspec_of mixedQ fun args S p os h hp => by
 unfold s38 at h
 split at h
 case h_2 => cases h
 injection h with h
 injection h with e1 e2
 subst e1; subst e2
 obtain ⟨⟨t, l, rfl⟩, ⟨h0, h1, h2⟩, g0, g1, g2⟩ := hp
 exact ⟨_, _, _, _, _, _, tN_ok m, itbl_nil, ptbl_cons (o39 m) (ptbl_nil J0_ok), p38 m _ t l _ _ _ _ h0 h1 h2 g0 g1 g2⟩
theorem num_ok {l : List UInt8} (h : intB l = true) (hl : l.length ≤ 1000000) : tbl tN 89 [.str l] = if valL l ≤ 9223372036854775807 then some (.tup [.int .i64 (valL l), .lit .nilIface], []) else some (.tup [.int .i64 9223372036854775807, .ifc], []) := by
 show (if l.length ≤ 1000000 ∧ intB l = true then _ else _) = _
 rw [if_pos ⟨hl, h⟩]
 split <;> rfl
theorem p43a (m : Int) (t : Tk) (l : List Tk) (b0 b1 b2 : List AV) (lv : List (Nat × TypeId)) (hi : IntIn (toksL (t :: l))) (h0 : pOk 5 b0) (h1 : pOk 5 b1) (h2 : pOk 5 b2) : PnOk PQ (GQ m) XN (tbl tN) (itbl []) fsN (ptbl [(39, s39)] J0) g38 43 [.ptr 3 0] (pS b0 b1 b2 (toksL (t :: l)) lv) (numOuts (toksL (t :: l)) fun e => pS b0 b1 b2 e lv) := by
 constructor
 rw [w43a]; unfold w43ac2 w43ac1 I6
 have hb : ∀ es, boxesOk 5 [some b0, some b1, some b2, some [.sl 3 es .no], some [.ptr 3 0]] = true := fun es => bOk5 h0 h1 h2
 refine ⟨⟨⟨t, l, rfl⟩, h0, h1, h2⟩, fun h => ?_, fun h => ⟨by rw [hb]; rfl, _, List.mem_cons_of_mem _ List.mem_cons_self, fun e => h ⟨e, rfl⟩, rfl, rfl, rfl⟩, trivial⟩
 obtain ⟨a1, a2⟩ := hi.out h.1
 have hn := num_ok a1 a2
 by_cases hv : valL t.s ≤ 9223372036854775807
 ·refine ⟨valL t.s, .inr ⟨⟨hn.trans (if_pos hv)⟩, nofun, fun _ => ⟨by rw [hb]; rfl, _, List.mem_cons_self, h.1, rfl, ?_, rfl⟩⟩⟩
  show AV.int .i64 (numV t.s) = _
  rw [numV, if_pos hv]
 ·refine ⟨9223372036854775807, .inl ⟨⟨hn.trans (if_neg hv)⟩, fun _ => ⟨by rw [hb]; rfl, _, List.mem_cons_self, h.1, rfl, ?_, rfl⟩, nofun⟩⟩
  show AV.int .i64 (numV t.s) = _
  rw [numV, if_neg hv]
theorem p43b (m : Int) (t : Tk) (l : List Tk) (b0 b1 b2 b5 : List AV) (lv : List (Nat × TypeId)) (hi : IntIn (toksL (t :: l))) (h0 : pOk 6 b0) (h1 : pOk 6 b1) (h2 : pOk 6 b2) (h5 : pOk 6 b5) : PnOk PQ (GQ m) XN (tbl tN) (itbl []) fsN (ptbl [(39, s39)] J0) g38 43 [.ptr 3 0] (pS6 b0 b1 b2 (toksL (t :: l)) (some b5) lv) (numOuts (toksL (t :: l)) fun e => pS6 b0 b1 b2 e (some b5) lv) := by
 constructor
 rw [w43b]; unfold w43bc2 w43bc1 I6
 have hb : ∀ es, boxesOk 6 [some b0, some b1, some b2, some [.sl 3 es .no], some [.ptr 3 0], some b5] = true := fun es => bOk6 h0 h1 h2 h5
 refine ⟨⟨⟨t, l, rfl⟩, h0, h1, h2, h5⟩, fun h => ?_, fun h => ⟨by rw [hb]; rfl, _, List.mem_cons_of_mem _ List.mem_cons_self, fun e => h ⟨e, rfl⟩, rfl, rfl, rfl⟩, trivial⟩
 obtain ⟨a1, a2⟩ := hi.out h.1
 have hn := num_ok a1 a2
 by_cases hv : valL t.s ≤ 9223372036854775807
 ·refine ⟨valL t.s, .inr ⟨⟨hn.trans (if_pos hv)⟩, nofun, fun _ => ⟨by rw [hb]; rfl, _, List.mem_cons_self, h.1, rfl, ?_, rfl⟩⟩⟩
  show AV.int .i64 (numV t.s) = _
  rw [numV, if_pos hv]
 ·refine ⟨9223372036854775807, .inl ⟨⟨hn.trans (if_neg hv)⟩, fun _ => ⟨by rw [hb]; rfl, _, List.mem_cons_self, h.1, rfl, ?_, rfl⟩, nofun⟩⟩
  show AV.int .i64 (numV t.s) = _
  rw [numV, if_neg hv]
theorem o43 (m : Int) : PSpecOk PQ (GQ m) 43 s43 := pspec_of mixedQ fun args S p os h hp => by
 unfold s43 at h
 split at h
 case h_3 => cases h
 case h_1 =>
  injection h with h
  injection h with e1 e2
  subst e1; subst e2
  obtain ⟨⟨t, l, rfl⟩, hi, h0, h1, h2⟩ := hp
  exact ⟨_, _, _, _, _, _, tN_ok m, itbl_nil, ptbl_cons (o39 m) (ptbl_nil J0_ok), p43a m t l _ _ _ _ hi h0 h1 h2⟩
 case h_2 =>
  injection h with h
  injection h with e1 e2
  subst e1; subst e2
  obtain ⟨⟨t, l, rfl⟩, hi, h0, h1, h2, h5⟩ := hp
  exact ⟨_, _, _, _, _, _, tN_ok m, itbl_nil, ptbl_cons (o39 m) (ptbl_nil J0_ok), p43b m t l _ _ _ _ _ hi h0 h1 h2 h5⟩
def s42 : PSpec := fun args S => match args, S with
  | [.ptr 0 0, .ptr 4 0], ⟨[some [.str en, .sl 1 fs (.tok 0), .sl 0 [] .nil, .int .i64 sd, .int .i64 pm], some b1, some b2, some [.sl 3 es .no], some [.ptr 3 0]], [(n, 9)]⟩ =>
    some (TokIn es ∧ (∃ l, fs = strsL l) ∧ n = fs.length ∧ fs.length ≤ 1000000 ∧ pOk 5 b1 ∧ pOk 5 b2,
      [⟨(hdT es).k = 1 ∧ nameR (hdT es).s = true, none, .tup [], pS [.str en, .sl 1 (fs ++ [.str (hdT es).s]) (.tok 0), .sl 0 [] .nil, .int .i64 sd, .int .i64 pm] b1 b2 (es.drop 1) [(fs.length + 1, 9)]⟩,
       ⟨¬ ((hdT es).k = 1 ∧ nameR (hdT es).s = true), some (wrongV (hdT es).a 90), .tup [], pS [.str en, .sl 1 fs (.tok 0), .sl 0 [] .nil, .int .i64 sd, .int .i64 pm] b1 b2 es [(fs.length, 9)]⟩])
  | _, _ => none
def s44 : PSpec := fun args S => match args, S with
  | [.ptr 4 0, .ptr 0 0], ⟨[some [.str en, .sl 1 fs (.tok 0), .sl 3 ls (.tok 1), .int .i64 sd, .int .i64 pm], some b1, some b2, some [.sl 3 es .no], some [.ptr 3 0]], [q, (n, 65)]⟩ =>
    some (TokIn es ∧ ((hdT es).k = 4 → TokIn (es.drop 1) ∧ IntIn (es.drop 1)) ∧ ((hdT es).k = 4 → (hdT (es.drop 1)).k = 2 → TokIn (es.drop 2) ∧ IntIn (es.drop 2)) ∧ (∃ l, ls = lbsL l) ∧ n = ls.length ∧ ls.length ≤ 1000000 ∧ (pOk 5 b1 ∧ pOk 5 b2) ∧ pOk 6 b1 ∧ pOk 6 b2,
      [⟨(hdT es).k = 4 ∧ (hdT (es.drop 1)).k = 2 ∧ (hdT (es.drop 2)).k = 2, none, .tup [], pS [.str en, .sl 1 fs (.tok 0), .sl 3 (ls ++ [.agg [.str (hdT es).s, .int .i64 (numV (hdT (es.drop 1)).s), .int .i64 (numV (hdT (es.drop 2)).s)]]) (.tok 1), .int .i64 sd, .int .i64 pm] b1 b2 (es.drop 3) [q, (ls.length + 1, 65)]⟩,
       ⟨(hdT es).k ≠ 4, some (wrongV (hdT es).a 90), .tup [], pS [.str en, .sl 1 fs (.tok 0), .sl 3 ls (.tok 1), .int .i64 sd, .int .i64 pm] b1 b2 es [q, (ls.length, 65)]⟩,
       ⟨(hdT es).k = 4 ∧ (hdT (es.drop 1)).k ≠ 2, some (wrongV (hdT (es.drop 1)).a 90), .tup [], pS [.str en, .sl 1 fs (.tok 0), .sl 3 ls (.tok 1), .int .i64 sd, .int .i64 pm] b1 b2 (es.drop 1) [q, (ls.length, 65)]⟩,
       ⟨(hdT es).k = 4 ∧ (hdT (es.drop 1)).k = 2 ∧ (hdT (es.drop 2)).k ≠ 2, some (wrongV (hdT (es.drop 2)).a 90), .tup [], pS [.str en, .sl 1 fs (.tok 0), .sl 3 ls (.tok 1), .int .i64 sd, .int .i64 pm] b1 b2 (es.drop 2) [q, (ls.length, 65)]⟩])
  | _, _ => none
/-! Parse -/
structure Pb where
 a : Int
 c : Int
deriving DecidableEq
def pbA (p : Pb) : AV := .agg [.int .i64 p.a, .int .i64 p.c]
abbrev pbsL (l : List Pb) : List AV := l.map pbA
structure GoodT (ts : List Tk) : Prop where
 ends : ∃ l t, ts = l ++ [t] ∧ t.k = 6
 ints : ∀ t ∈ ts, t.k = 2 → intB t.s = true ∧ t.s.length ≤ 1000000
 few : ts.length ≤ 900000
def zR (a c : Int) : AV := .tup [rqA zRq, .int .i64 a, .int .i64 c]
def resT (ts : List Tk) (pb : List Pb) (e : Int) : AV :=
 if e ≠ 0 then zR 0 e else
 match pb with
 | p :: _ => zR p.a p.c
 | [] => if ts = [] then zR 0 90 else resP (parseTk ts)
structure P2 where
 r : Rq
 ts : List Tk
def rqC (r : Rq) (fo : Own) (lsz : Nat) (lo : Own) : List AV := [.str r.entity, .sl 1 (strsL r.feats) fo, .sl lsz (lbsL r.labels) lo, .int .i64 r.seed, .int .i64 r.permille]
def rqN (r : Rq) (fo : Own) : List AV := [.str r.entity, .sl 1 (strsL r.feats) fo, .sl 0 [] .nil, .int .i64 r.seed, .int .i64 r.permille]
def b0n : List AV := [.int .i64 0]
def pcut (b0 : P2 → List AV) (e : Int) (lv : P2 → List (Nat × TypeId)) (I : P2 → Prop) (mb : List (Nat × TypeId)) (kp : Option Nat) : Option Ann :=
 some { α := P2, slots := [2, 3, 4, 7], nb := 5, vals := fun _ => [.ptr 0 0, .ptr 1 0, .ptr 2 0, .ptr 4 0], sS := fun x => pS (b0 x) b0n [.int .i64 e] (toksL x.ts) (lv x), I := I, μ := fun _ => 0, mintB := mb, keep := kp }
def lv1 (x : P2) : List (Nat × TypeId) := [(x.r.feats.length, 9)]
def lv2 (x : P2) : List (Nat × TypeId) := [(x.r.feats.length, 9), (x.r.labels.length, 65)]
def aP (ts : List Tk) (e : Int) : Anns := ⟨fun k => match k with
 | 1000012 => pcut (fun x => [.str x.r.entity, .sl 0 [] .nil, .sl 0 [] .nil, .int .i64 0, .int .i64 0]) e (fun _ => []) (fun x => GoodT x.ts ∧ parseTk ts = k12 ⟨x.r.entity, [], [], 0, 0⟩ x.ts ∧ x.ts.length ≤ ts.length) [] none
 | 1000013 => pcut (fun x => rqN x.r (.tok 0)) e lv1 (fun x => GoodT x.ts ∧ parseTk ts = k13 x.r x.ts ∧ x.r.feats = [] ∧ x.r.labels = [] ∧ x.ts.length ≤ ts.length) [(1000, 9)] none
 | 1000014 => pcut (fun x => rqN x.r (.tok 0)) e lv1 (fun x => GoodT x.ts ∧ parseTk ts = k14 x.r x.ts ∧ x.r.labels = [] ∧ x.ts.length ≤ ts.length) [] none
 | 1000016 => pcut (fun x => rqN x.r (.tok 0)) e lv1 (fun x => GoodT x.ts ∧ parseTk ts = k16 x.r x.ts ∧ x.r.labels = [] ∧ x.ts.length ≤ ts.length) [] none
 | 1000018 => pcut (fun x => rqC x.r (.tok 0) 3 (.tok 1)) e lv2 (fun x => GoodT x.ts ∧ parseTk ts = k18 x.r x.ts ∧ x.r.labels = [] ∧ x.ts.length ≤ ts.length) [(2000, 65)] none
 | 1000021 => pcut (fun x => rqC x.r (.tok 0) 3 (.tok 1)) e lv2 (fun x => GoodT x.ts ∧ parseTk ts = k21 x.r x.ts) [] none
 | _ => none, nA⟩
def aLF (ts : List Tk) (e : Int) : Anns := ⟨fun k => if k = 1 then some { α := P2, slots := [0, 1], nb := 5, vals := fun _ => [.ptr 3 0, .fn 42 [.ptr 0 0, .ptr 4 0]], sS := fun x => pS (rqN x.r (.tok 0)) b0n [.int .i64 e] (toksL x.ts) (lv1 x), I := fun x => GoodT x.ts ∧ parseTk ts = kMf x.r x.ts x.r.feats ∧ x.r.labels = [] ∧ x.r.feats.length + x.ts.length ≤ ts.length, μ := fun x => x.ts.length } else none, nA⟩
def aLL (ts : List Tk) (e : Int) : Anns := ⟨fun k => if k = 1 then some { α := P2, slots := [0, 1], nb := 5, vals := fun _ => [.ptr 3 0, .fn 44 [.ptr 4 0, .ptr 0 0]], sS := fun x => pS (rqC x.r (.tok 0) 3 (.tok 1)) b0n [.int .i64 e] (toksL x.ts) (lv2 x), I := fun x => GoodT x.ts ∧ parseTk ts = kMl x.r x.ts x.r.labels ∧ x.r.labels.length + x.ts.length ≤ ts.length, μ := fun x => x.ts.length } else none, nA⟩
def cf41 (ts : List Tk) (e : Int) (args : List AV) : PCfg :=
 match args with
 | [_, .fn 42 _] => { ps := [0, 3], A := aLF ts e }
 | _ => { ps := [0, 3], A := aLL ts e }
def J1 : InC := ptbl [(39, s39), (38, s38), (43, s43), (42, s42), (44, s44)] J0
def s36v (ts : List Tk) (pb : List Pb) (e : Int) : AV × List (Nat × TypeId) := (.tup [.sl 3 (toksL ts) .no, .sl 2 (pbsL pb) .no, .int .i64 e], [])
def XP (ts : List Tk) (pb : List Pb) (e : Int) : Shapes := fun f => match f with
 | 36 => some (.tup [.one (.is (.sl 3 (toksL ts) .no)), .one (.is (.sl 2 (pbsL pb) .no)), .one (.is (.int .i64 e))], none)
 | 40 | 45 | 46 | 87 => some shB
 | _ => none
def gP (ts : List Tk) (e : Int) : TCfg := { ps := [10, 11, 12, 13, 14, 15, 16, 17, 20, 21, 23], A := aP ts e, dr := 8 }
abbrev JP (m : Int) (mk : Mk) (s : Spec) (ts : List Tk) (pb : List Pb) (e : Int) : InC := inlW PQ mk (GQ m) (XP ts pb e) (tbl [(36, s), (46, s46)]) (itbl []) fsN (cf41 ts e) 41 J1
abbrev w42c5 (en : List UInt8) (fs : List (List UInt8)) (t : Tk) (l : List Tk) (sd : Int) (pm : Int) (b1 : List AV) (b2 : List AV) : List (Option (List AV)) := [some [AV.str en, AV.sl 1 (strsL fs ++ [AV.str (hdT (toksL (t :: l))).s]) (Own.tok 0), AV.sl 0 [] Own.nil, AV.int IntKind.i64 sd, AV.int IntKind.i64 pm], some b1, some b2, some [AV.sl 3 (if (1 : Int) = (6 : Int) then toksL (t :: l) else List.drop 1 (toksL (t :: l))) Own.no], some [AV.ptr 3 0]]
abbrev w42c1 (fs : List (List UInt8)) (en : List UInt8) (t : Tk) (l : List Tk) (sd : Int) (pm : Int) (b1 : List AV) (b2 : List AV) (os : List POut) : Prop := (((1 : Nat) = (1 : Nat) ∨ strsL fs = []) ∧ ((strsL fs).length + (1 : Nat)) * (17 : Nat) ≤ (70368744177664 : Nat) ∧ fs.length = (strsL fs).length ∧ (PEnd (AV.p2 5 (AV.tup []) && boxesOk 5 (w42c5 en fs t l sd pm b1 b2)) none (AV.tup []) { boxes := (w42c5 en fs t l sd pm b1 b2), live := [((strsL fs).length + (1 : Nat), 9)] } os ∧ True) ∧ True) ∧ True
abbrev w42c6 (en : List UInt8) (fs : List (List UInt8)) (sd : Int) (pm : Int) : List AV := [AV.str en, AV.sl 1 (strsL fs) (Own.tok 0), AV.sl 0 [] Own.nil, AV.int IntKind.i64 sd, AV.int IntKind.i64 pm]
abbrev w42c2 (t : Tk) (l : List Tk) (en : List UInt8) (fs : List (List UInt8)) (sd : Int) (pm : Int) (b1 : List AV) (b2 : List AV) (os : List POut) : Prop := ((hdT (toksL (t :: l))).k = (1 : Int) ∧ accS 40 [] (hdT (toksL (t :: l))).s = true → False) → PEnd (AV.p2 5 (AV.tup []) && boxesOk 5 [some (w42c6 en fs sd pm), some b1, some b2, some [AV.sl 3 (toksL (t :: l)) Own.no], some [AV.ptr 3 0]]) (some (Value.iface 88 (Value.agg #[Value.int IntKind.i64 (hdT (toksL (t :: l))).a, Value.int IntKind.i64 90]))) (AV.tup []) { boxes := [some (w42c6 en fs sd pm), some b1, some b2, some [AV.sl 3 (toksL (t :: l)) Own.no], some [AV.ptr 3 0]], live := [(fs.length, 9)] } os
abbrev w42c3 (t : Tk) (l : List Tk) (en : List UInt8) (fs : List (List UInt8)) (sd : Int) (pm : Int) (b1 : List AV) (b2 : List AV) : Prop := TokIn (toksL (t :: l)) ∧ (w42c6 en fs sd pm).all (AV.p1 5) = true ∧ b1.all (AV.p1 5) = true ∧ b2.all (AV.p1 5) = true
abbrev w42c4 (t : Tk) (l : List Tk) (en : List UInt8) (fs : List (List UInt8)) (sd : Int) (pm : Int) (b1 : List AV) (b2 : List AV) (os : List POut) : Prop := (((w42c3 t l en fs sd pm b1 b2) ∧ ((hdT (toksL (t :: l))).k = (1 : Int) ∧ accS 40 [] (hdT (toksL (t :: l))).s = true → (w42c1 fs en t l sd pm b1 b2 os) ∧ True) ∧ (w42c2 t l en fs sd pm b1 b2 os) ∧ True) ∧ True) ∧ ((w42c3 t l en fs sd pm b1 b2) ∧ ((hdT (toksL (t :: l))).k = (1 : Int) ∧ accS 40 [] (hdT (toksL (t :: l))).s = true → ((w42c1 fs en t l sd pm b1 b2 os) ∧ True) ∧ ((w42c1 fs en t l sd pm b1 b2 os) ∧ True) ∧ True) ∧ (w42c2 t l en fs sd pm b1 b2 os) ∧ True) ∧ True
theorem w42 (m : Int) (t : Tk) (l : List Tk) (en : List UInt8) (fs : List (List UInt8)) (sd pm : Int) (b1 b2 : List AV) (os : List POut) : (pnW PQ idMk (GQ m) XN (tbl tN) (itbl []) fsN (ptbl [(39, s39)] J0) { ps := [0], A := nAn } 42 [.ptr 0 0, .ptr 4 0] (pS [.str en, .sl 1 (strsL fs) (.tok 0), .sl 0 [] .nil, .int .i64 sd, .int .i64 pm] b1 b2 (toksL (t :: l)) [(fs.length, 9)]) os) =
((((((w42c3 t l en fs sd pm b1 b2) ∧ ((hdT (toksL (t :: l))).k = (1 : Int) ∧ accS 40 [] (hdT (toksL (t :: l))).s = true → (w42c1 fs en t l sd pm b1 b2 os) ∧ True) ∧ (w42c2 t l en fs sd pm b1 b2 os) ∧ True) ∧ True) ∧ True) ∧ (w42c4 t l en fs sd pm b1 b2 os) ∧ True) ∧ ((w42c4 t l en fs sd pm b1 b2 os) ∧ ((w42c3 t l en fs sd pm b1 b2) ∧ ((hdT (toksL (t :: l))).k = (1 : Int) ∧ accS 40 [] (hdT (toksL (t :: l))).s = true → (((w42c1 fs en t l sd pm b1 b2 os) ∧ True) ∧ ((w42c1 fs en t l sd pm b1 b2 os) ∧ True) ∧ True) ∧ (((w42c1 fs en t l sd pm b1 b2 os) ∧ True) ∧ True) ∧ True) ∧ (w42c2 t l en fs sd pm b1 b2 os) ∧ True) ∧ True) ∧ True) := by kernel_rfl
abbrev w44c1 (t : Tk) (l : List Tk) := List.drop 1 (if (4 : Int) = (6 : Int) then toksL (t :: l) else List.drop 1 (toksL (t :: l)))
abbrev w44c2 (en : List UInt8) (fs : List AV) (ls : List Lb) (sd : Int) (pm : Int) : List AV := [AV.str en, AV.sl 1 fs (Own.tok 0), AV.sl 3 (lbsL ls) (Own.tok 1), AV.int IntKind.i64 sd, AV.int IntKind.i64 pm]
abbrev w44c3 (t : Tk) (l : List Tk) := hdT (if (4 : Int) = (6 : Int) then toksL (t :: l) else List.drop 1 (toksL (t :: l)))
abbrev w44c4 (en : List UInt8) (fs : List AV) (ls : List Lb) (t : Tk) (l : List Tk) (sd : Int) (pm : Int) (b1 : List AV) (b2 : List AV) : List (Option (List AV)) := [some [AV.str en, AV.sl 1 fs (Own.tok 0), AV.sl 3 (lbsL ls ++ [AV.agg [AV.str (hdT (toksL (t :: l))).s, I6 (numV (w44c3 t l).s), I6 (numV (hdT (w44c1 t l)).s)]]) (Own.tok 1), I6 sd, I6 pm], some b1, some b2, some [AV.sl 3 (List.drop 1 (w44c1 t l)) Own.no], some [AV.ptr 3 0]]
theorem w44 (m : Int) (t : Tk) (l : List Tk) (en : List UInt8) (fs : List AV) (ls : List Lb) (sd pm : Int) (b1 b2 : List AV) (q : Nat × TypeId) (os : List POut) : (pnW PQ idMk (GQ m) XN (tbl tN) (itbl []) fsN (ptbl [(39, s39), (43, s43)] J0) { ps := [0, 1, 2], A := nAn } 44 [.ptr 4 0, .ptr 0 0] (pS [.str en, .sl 1 fs (.tok 0), .sl 3 (lbsL ls) (.tok 1), .int .i64 sd, .int .i64 pm] b1 b2 (toksL (t :: l)) [q, (ls.length, 65)]) os) =
((TokIn (toksL (t :: l)) ∧ (w44c2 en fs ls sd pm).all (AV.p1 6) = true ∧ b1.all (AV.p1 6) = true ∧ b2.all (AV.p1 6) = true) ∧ ((hdT (toksL (t :: l))).k = (4 : Int) ∧ everyB (hdT (toksL (t :: l))).s = true → (TokIn (if (4 : Int) = (6 : Int) then toksL (t :: l) else List.drop 1 (toksL (t :: l))) ∧ IntIn (if (4 : Int) = (6 : Int) then toksL (t :: l) else List.drop 1 (toksL (t :: l))) ∧ (w44c2 en fs ls sd pm).all (AV.p1 6) = true ∧ b1.all (AV.p1 6) = true ∧ b2.all (AV.p1 6) = true ∧ [AV.str (hdT (toksL (t :: l))).s, I6 0, I6 0].all (AV.p1 6) = true) ∧ ((w44c3 t l).k = (2 : Int) → (TokIn (w44c1 t l) ∧ IntIn (w44c1 t l) ∧ (w44c2 en fs ls sd pm).all (AV.p1 6) = true ∧ b1.all (AV.p1 6) = true ∧ b2.all (AV.p1 6) = true ∧ [AV.str (hdT (toksL (t :: l))).s, I6 (numV (w44c3 t l).s), I6 0].all (AV.p1 6) = true) ∧ ((hdT (w44c1 t l)).k = (2 : Int) → ((3 : Nat) = (3 : Nat) ∨ lbsL ls = []) ∧ ((lbsL ls).length + (1 : Nat)) * (33 : Nat) ≤ (70368744177664 : Nat) ∧ ls.length = (lbsL ls).length ∧ PEnd (AV.p2 5 (AV.tup []) && boxesOk 5 (w44c4 en fs ls t l sd pm b1 b2)) none (AV.tup []) { boxes := (w44c4 en fs ls t l sd pm b1 b2), live := [q, ((lbsL ls).length + (1 : Nat), 65)] } os) ∧ (((hdT (w44c1 t l)).k = (2 : Int) → False) → PEnd (AV.p2 5 (AV.tup []) && boxesOk 5 [some (w44c2 en fs ls sd pm), some b1, some b2, some [AV.sl 3 (w44c1 t l) Own.no], some [AV.ptr 3 0]]) (some (Value.iface 88 (Value.agg #[Value.int IntKind.i64 (hdT (w44c1 t l)).a, Value.int IntKind.i64 90]))) (AV.tup []) { boxes := [some (w44c2 en fs ls sd pm), some b1, some b2, some [AV.sl 3 (w44c1 t l) Own.no], some [AV.ptr 3 0]], live := [q, (ls.length, 65)] } os) ∧ True) ∧ (((w44c3 t l).k = (2 : Int) → False) → PEnd (AV.p2 5 (AV.tup []) && boxesOk 5 [some (w44c2 en fs ls sd pm), some b1, some b2, some [AV.sl 3 (if (4 : Int) = (6 : Int) then toksL (t :: l) else List.drop 1 (toksL (t :: l))) Own.no], some [AV.ptr 3 0]]) (some (Value.iface 88 (Value.agg #[Value.int IntKind.i64 (w44c3 t l).a, Value.int IntKind.i64 90]))) (AV.tup []) { boxes := [some (w44c2 en fs ls sd pm), some b1, some b2, some [AV.sl 3 (if (4 : Int) = (6 : Int) then toksL (t :: l) else List.drop 1 (toksL (t :: l))) Own.no], some [AV.ptr 3 0]], live := [q, (ls.length, 65)] } os) ∧ True) ∧ (((hdT (toksL (t :: l))).k = (4 : Int) ∧ everyB (hdT (toksL (t :: l))).s = true → False) → PEnd (AV.p2 5 (AV.tup []) && boxesOk 5 [some (w44c2 en fs ls sd pm), some b1, some b2, some [AV.sl 3 (toksL (t :: l)) Own.no], some [AV.ptr 3 0]]) (some (Value.iface 88 (Value.agg #[Value.int IntKind.i64 (hdT (toksL (t :: l))).a, Value.int IntKind.i64 90]))) (AV.tup []) { boxes := [some (w44c2 en fs ls sd pm), some b1, some b2, some [AV.sl 3 (toksL (t :: l)) Own.no], some [AV.ptr 3 0]], live := [q, (ls.length, 65)] } os) ∧ True) := by kernel_rfl
theorem p42 (m : Int) (t : Tk) (l : List Tk) (en : List UInt8) (fs : List (List UInt8)) (sd pm : Int) (b1 b2 : List AV) (n : Nat) (hn0 : n = fs.length) (hf : fs.length ≤ 1000000) (h1 : pOk 5 b1) (h2 : pOk 5 b2) : PnOk PQ (GQ m) XN (tbl tN) (itbl []) fsN (ptbl [(39, s39)] J0) { ps := [0], A := nAn } 42 [.ptr 0 0, .ptr 4 0] (pS [.str en, .sl 1 (strsL fs) (.tok 0), .sl 0 [] .nil, .int .i64 sd, .int .i64 pm] b1 b2 (toksL (t :: l)) [(n, 9)])
    [⟨t.k = 1 ∧ nameR t.s = true, none, .tup [], pS [.str en, .sl 1 (strsL fs ++ [.str t.s]) (.tok 0), .sl 0 [] .nil, .int .i64 sd, .int .i64 pm] b1 b2 (toksL l) [(n + 1, 9)]⟩,
     ⟨¬ (t.k = 1 ∧ nameR t.s = true), some (wrongV t.a 90), .tup [], pS [.str en, .sl 1 (strsL fs) (.tok 0), .sl 0 [] .nil, .int .i64 sd, .int .i64 pm] b1 b2 (toksL (t :: l)) [(n, 9)]⟩] := by
  subst hn0
  constructor
  rw [w42]; unfold w42c4 w42c3 w42c2 w42c6 w42c1 w42c5
  have hn : (strsL fs).length = fs.length := List.length_map _
  have hb : ∀ (es : List AV) (o : Own) (ts : List AV), boxesOk 5 [some [.str en, .sl 1 es o, .sl 0 [] .nil, .int .i64 sd, .int .i64 pm], some b1, some b2, some [.sl 3 ts .no], some [.ptr 3 0]] = true := fun es o ts => bOk5 rfl h1 h2
  have hT : TokIn (toksL (t :: l)) := ⟨t, l, rfl⟩
  have hl : ((strsL fs).length + 1) * 17 ≤ 70368744177664 := by rw [hn]; omega
  have b1' : b1.all (AV.p1 5) = true := h1
  have b2' : b2.all (AV.p1 5) = true := h2
  have hp : [AV.str en, .sl 1 (strsL fs) (.tok 0), .sl 0 [] .nil, .int .i64 sd, .int .i64 pm].all (AV.p1 5) = true := rfl
  repeat' (first | exact trivial | exact hT | exact b1' | exact b2' | exact hp | exact hl | exact hn.symm | exact .inl rfl | refine And.intro ?_ ?_ | intro h)
  all_goals (first | exact ⟨by rw [hb]; rfl, _, List.mem_cons_self, h, rfl, rfl, by rw [hn]; rfl⟩ | exact ⟨by rw [hb]; rfl, _, List.mem_cons_of_mem _ List.mem_cons_self, h, rfl, rfl, rfl⟩)
theorem o42 (m : Int) : PSpecOk PQ (GQ m) 42 s42 := pspec_of mixedQ fun args S p os h hp => by
 unfold s42 at h
 split at h
 case h_2 => cases h
 injection h with h
 injection h with e1 e2
 subst e1; subst e2
 obtain ⟨⟨t, l, rfl⟩, ⟨fs, rfl⟩, rfl, hf, h1, h2⟩ := hp
 have hn : (strsL fs).length = fs.length := List.length_map _
 exact ⟨_, _, _, _, _, _, tN_ok m, itbl_nil, ptbl_cons (o39 m) (ptbl_nil J0_ok), p42 m t l _ fs _ _ _ _ _ hn (by rw [hn] at hf; exact hf) h1 h2⟩
theorem p44 (m : Int) (t : Tk) (l : List Tk) (en : List UInt8) (fs : List AV) (ls : List Lb) (sd pm : Int) (b1 b2 : List AV) (q : Nat × TypeId) (n : Nat) (hn0 : n = ls.length)
    (ht1 : t.k = 4 → TokIn (toksL l) ∧ IntIn (toksL l)) (ht2 : t.k = 4 → (hdT (toksL l)).k = 2 → TokIn ((toksL l).drop 1) ∧ IntIn ((toksL l).drop 1)) (hf : ls.length ≤ 1000000) (h1 : pOk 5 b1) (h2 : pOk 5 b2) (g1 : pOk 6 b1) (g2 : pOk 6 b2) : PnOk PQ (GQ m) XN (tbl tN) (itbl []) fsN (ptbl [(39, s39), (43, s43)] J0) { ps := [0, 1, 2], A := nAn } 44 [.ptr 4 0, .ptr 0 0] (pS [.str en, .sl 1 fs (.tok 0), .sl 3 (lbsL ls) (.tok 1), .int .i64 sd, .int .i64 pm] b1 b2 (toksL (t :: l)) [q, (n, 65)])
    [⟨t.k = 4 ∧ (hdT (toksL l)).k = 2 ∧ (hdT ((toksL l).drop 1)).k = 2, none, .tup [], pS [.str en, .sl 1 fs (.tok 0), .sl 3 (lbsL ls ++ [.agg [.str t.s, .int .i64 (numV (hdT (toksL l)).s), .int .i64 (numV (hdT ((toksL l).drop 1)).s)]]) (.tok 1), .int .i64 sd, .int .i64 pm] b1 b2 ((toksL l).drop 2) [q, (n + 1, 65)]⟩,
     ⟨t.k ≠ 4, some (wrongV t.a 90), .tup [], pS [.str en, .sl 1 fs (.tok 0), .sl 3 (lbsL ls) (.tok 1), .int .i64 sd, .int .i64 pm] b1 b2 (toksL (t :: l)) [q, (n, 65)]⟩,
     ⟨t.k = 4 ∧ (hdT (toksL l)).k ≠ 2, some (wrongV (hdT (toksL l)).a 90), .tup [], pS [.str en, .sl 1 fs (.tok 0), .sl 3 (lbsL ls) (.tok 1), .int .i64 sd, .int .i64 pm] b1 b2 (toksL l) [q, (n, 65)]⟩,
     ⟨t.k = 4 ∧ (hdT (toksL l)).k = 2 ∧ (hdT ((toksL l).drop 1)).k ≠ 2, some (wrongV (hdT ((toksL l).drop 1)).a 90), .tup [], pS [.str en, .sl 1 fs (.tok 0), .sl 3 (lbsL ls) (.tok 1), .int .i64 sd, .int .i64 pm] b1 b2 ((toksL l).drop 1) [q, (n, 65)]⟩] := by
  subst hn0
  constructor
  rw [w44]; unfold w44c4 w44c3 w44c2 w44c1 I6
  have hn : (lbsL ls).length = ls.length := List.length_map _
  have hb : ∀ (es : List AV) (o : Own) (ts : List AV), boxesOk 5 [some [.str en, .sl 1 fs (.tok 0), .sl 3 es o, .int .i64 sd, .int .i64 pm], some b1, some b2, some [.sl 3 ts .no], some [.ptr 3 0]] = true := fun es o ts => bOk5 rfl h1 h2
  have e6 : ∀ (a : List AV), (if (4 : Int) = 6 then a else List.drop 1 (toksL (t :: l))) = toksL l := fun a => rfl
  have d2 : List.drop 1 (List.drop 1 (toksL l)) = (toksL l).drop 2 := by rw [List.drop_drop]
  simp only [e6]
  refine ⟨⟨⟨t, l, rfl⟩, rfl, g1, g2⟩, fun c1 => ⟨⟨(ht1 c1.1).1, (ht1 c1.1).2, rfl, g1, g2, rfl⟩, fun c2 => ⟨⟨(ht2 c1.1 c2).1, (ht2 c1.1 c2).2, rfl, g1, g2, rfl⟩, fun c3 => ⟨.inl trivial, by rw [hn]; omega, hn.symm, ⟨by rw [hb]; rfl, _, List.mem_cons_self, ⟨c1.1, c2, c3⟩, rfl, rfl, ?_⟩⟩, fun c3 => ⟨by rw [hb]; rfl, _, List.mem_cons_of_mem _ (List.mem_cons_of_mem _ (List.mem_cons_of_mem _ List.mem_cons_self)), ⟨c1.1, c2, c3⟩, rfl, rfl, rfl⟩, trivial⟩, fun c2 => ⟨by rw [hb]; rfl, _, List.mem_cons_of_mem _ (List.mem_cons_of_mem _ List.mem_cons_self), ⟨c1.1, c2⟩, rfl, rfl, rfl⟩, trivial⟩, fun c1 => ⟨by rw [hb]; rfl, _, List.mem_cons_of_mem _ List.mem_cons_self, fun e => c1 ⟨e, rfl⟩, rfl, rfl, rfl⟩, trivial⟩
  rw [d2, hn]; rfl
theorem o44 (m : Int) : PSpecOk PQ (GQ m) 44 s44 := pspec_of mixedQ fun args S p os h hp => by
 unfold s44 at h
 split at h
 case h_2 => cases h
 injection h with h
 injection h with e1 e2
 subst e1; subst e2
 obtain ⟨⟨t, l, rfl⟩, ht1, ht2, ⟨ls, rfl⟩, rfl, hf, ⟨h1, h2⟩, g1, g2⟩ := hp
 have hn : (lbsL ls).length = ls.length := List.length_map _
 exact ⟨_, _, _, _, _, _, tN_ok m, itbl_nil, ptbl_cons (o39 m) (ptbl_cons (o43 m) (ptbl_nil J0_ok)), p44 m t l _ _ ls _ _ _ _ _ _ hn ht1 ht2 (by rw [hn] at hf; exact hf) h1 h2 g1 g2⟩
theorem J1_ok (m : Int) : InOk PQ (GQ m) fsN J1 := ptbl_cons (o39 m) (ptbl_cons (o38 m) (ptbl_cons (o43 m) (ptbl_cons (o42 m) (ptbl_cons (o44 m) (ptbl_nil J0_ok)))))
end Go.Abs
namespace Go.Abs
open Go.Proofs Go.Wire
def rdT (bs : List UInt8) (at_ : Int) : Except Int (List UInt8 × Int) := if (textA bs at_).2.2 = 0 then .ok ((textA bs at_).1, (textA bs at_).2.1) else .error (textA bs at_).2.2
def rdI (bs : List UInt8) (at_ : Int) : Except Int (Int × Int) := if (sintA bs at_).2.2 = 0 then .ok ((sintA bs at_).1, (sintA bs at_).2.1) else .error (sintA bs at_).2.2
def rdN (most : Int) (bs : List UInt8) (at_ : Int) : Except Int (Nat × Int) := if (uintA bs at_).2.2 = 0 then (if most < (uintA bs at_).1 then .error 240 else .ok ((uintA bs at_).1.toNat, (uintA bs at_).2.1)) else .error (uintA bs at_).2.2
def rdTs (bs : List UInt8) : Nat → Int → List (List UInt8) → Except Int (List (List UInt8) × Int)
 | 0, a, l => .ok (l, a)
 | n + 1, a, l => thn (rdT bs a) fun x => rdTs bs n x.2 (l ++ [x.1])
def rdLb (bs : List UInt8) (a : Int) : Except Int (Lb × Int) := thn (rdT bs a) fun k => thn (rdI bs k.2) fun e => thn (rdI bs e.2) fun n => .ok (⟨k.1, e.1, n.1⟩, n.2)
def rdLs (bs : List UInt8) : Nat → Int → List Lb → Except Int (List Lb × Int)
 | 0, a, l => .ok (l, a)
 | n + 1, a, l => thn (rdLb bs a) fun x => rdLs bs n x.2 (l ++ [x.1])
/-! the continuations -/
def r16 (bs : List UInt8) (r : Rq) (a : Int) : Except Int (Rq × Int) := thn (rdI bs a) fun x => .ok ({ r with permille := x.1 }, x.2)
def r15 (bs : List UInt8) (r : Rq) (a : Int) : Except Int (Rq × Int) := thn (rdI bs a) fun x => r16 bs { r with seed := x.1 } x.2
def rLs (bs : List UInt8) (n : Nat) (r : Rq) (a : Int) : Except Int (Rq × Int) := thn (rdLs bs n a r.labels) fun x => r15 bs { r with labels := x.1 } x.2
def r8 (bs : List UInt8) (r : Rq) (a : Int) : Except Int (Rq × Int) := thn (rdN 256 bs a) fun x => rLs bs x.1 r x.2
def rFs (bs : List UInt8) (n : Nat) (r : Rq) (a : Int) : Except Int (Rq × Int) := thn (rdTs bs n a r.feats) fun x => r8 bs { r with feats := x.1 } x.2
def r4 (bs : List UInt8) (r : Rq) (a : Int) : Except Int (Rq × Int) := thn (rdN 8 bs a) fun x => rFs bs x.1 r x.2
def readRq (bs : List UInt8) (a : Int) : Except Int (Rq × Int) := thn (rdT bs a) fun x => r4 bs ⟨x.1, [], [], 0, 0⟩ x.2
def resR (x : Except Int (Rq × Int)) : AV :=
 match x with
 | .error e => .tup [rqA zRq, .int .i64 0, .int .i64 e]
 | .ok (r, a) => if formB r then .tup [rqA r, .int .i64 a, .int .i64 0] else .tup [rqA zRq, .int .i64 0, .int .i64 240]
/-! specs of step and many -/
def keptBy (es : List AV) : List UInt8 := (unBytes es).getD []
theorem keptBy_ok (bs : List UInt8) : keptBy (bytesL bs) = bs := by unfold keptBy; rw [unBytes_mk]; rfl
def keptTx (es : List AV) (a : Int) : List UInt8 × Int × Int := textA (keptBy es) a
def keptIn (es : List AV) (a : Int) : Int × Int × Int := sintA (keptBy es) a
def keptUi (es : List AV) (a : Int) : Int × Int × Int := uintA (keptBy es) a
structure BytL (es : List AV) : Prop where
 out : ∃ bs, es = bytesL bs ∧ bs.length ≤ 2000000
def inB (es : List AV) (a : Int) : List AV := [.sl 1 es .no, .int .i64 a]
def u4 (b0 b1 b2 : List AV) (es : List AV) (a : Int) (lv : List (Nat × TypeId)) : St := ⟨[some b0, some b1, some b2, some (inB es a)], lv⟩
def u5 (b0 b1 b2 : List AV) (es : List AV) (a : Int) (b4 : Option (List AV)) (lv : List (Nat × TypeId)) : St := ⟨[some b0, some b1, some b2, some (inB es a), b4], lv⟩
def txOuts (es : List AV) (a : Int) (mk : Int → St) : List POut :=
 [⟨(keptTx es a).2.2 = 0, none, .str (keptTx es a).1, mk (keptTx es a).2.1⟩, ⟨(keptTx es a).2.2 ≠ 0, some (wrongV 0 (keptTx es a).2.2), .tup [], mk a⟩]
def inOuts (es : List AV) (a : Int) (mk : Int → St) : List POut :=
 [⟨(keptIn es a).2.2 = 0, none, .int .i64 (keptIn es a).1, mk (keptIn es a).2.1⟩, ⟨(keptIn es a).2.2 ≠ 0, some (wrongV 0 (keptIn es a).2.2), .tup [], mk a⟩]
def uiOuts (es : List AV) (a : Int) (mk : Int → St) : List POut :=
 [⟨(keptUi es a).2.2 = 0, none, .int .u64 (keptUi es a).1, mk (keptUi es a).2.1⟩, ⟨(keptUi es a).2.2 ≠ 0, some (wrongV 0 (keptUi es a).2.2), .tup [], mk a⟩]
def s65 : PSpec := fun args S => match args, S with
 | [.ptr 3 0, .fn 34 []], ⟨[some b0, some b1, some b2, some [.sl 1 es .no, .int .i64 a]], []⟩ => some (BytL es ∧ pOk 4 b0 ∧ pOk 4 b1 ∧ pOk 4 b2, txOuts es a fun a => u4 b0 b1 b2 es a [])
 | [.ptr 3 0, .fn 34 []], ⟨[some b0, some b1, some b2, some [.sl 1 es .no, .int .i64 a]], [q]⟩ => some (BytL es ∧ pOk 4 b0 ∧ pOk 4 b1 ∧ pOk 4 b2, txOuts es a fun a => u4 b0 b1 b2 es a [q])
 | [.ptr 3 0, .fn 34 []], ⟨[some b0, some b1, some b2, some [.sl 1 es .no, .int .i64 a], none], [q, q2]⟩ => some (BytL es ∧ pOk 5 b0 ∧ pOk 5 b1 ∧ pOk 5 b2, txOuts es a fun a => u5 b0 b1 b2 es a none [q, q2])
 | _, _ => none
def s67 : PSpec := fun args S => match args, S with
 | [.ptr 3 0, .fn 68 []], ⟨[some b0, some b1, some b2, some [.sl 1 es .no, .int .i64 a]], [q, q2]⟩ => some (BytL es ∧ pOk 4 b0 ∧ pOk 4 b1 ∧ pOk 4 b2, inOuts es a fun a => u4 b0 b1 b2 es a [q, q2])
 | [.ptr 3 0, .fn 68 []], ⟨[some b0, some b1, some b2, some [.sl 1 es .no, .int .i64 a], some b4], [q, q2]⟩ => some (BytL es ∧ pOk 5 b0 ∧ pOk 5 b1 ∧ pOk 5 b2 ∧ pOk 5 b4, inOuts es a fun a => u5 b0 b1 b2 es a (some b4) [q, q2])
 | _, _ => none
def s115 : PSpec := fun args S => match args, S with
 | [.ptr 3 0, .fn 35 []], ⟨[some b0, some b1, some b2, some [.sl 1 es .no, .int .i64 a]], []⟩ => some (BytL es ∧ pOk 4 b0 ∧ pOk 4 b1 ∧ pOk 4 b2, uiOuts es a fun a => u4 b0 b1 b2 es a [])
 | [.ptr 3 0, .fn 35 []], ⟨[some b0, some b1, some b2, some [.sl 1 es .no, .int .i64 a]], [q]⟩ => some (BytL es ∧ pOk 4 b0 ∧ pOk 4 b1 ∧ pOk 4 b2, uiOuts es a fun a => u4 b0 b1 b2 es a [q])
 | _, _ => none
def manyOuts (es : List AV) (a k : Int) (mk : Int → St) : List POut :=
  [⟨(keptUi es a).2.2 = 0 ∧ (keptUi es a).1 ≤ k, none, .int .i64 (keptUi es a).1, mk (keptUi es a).2.1⟩,
   ⟨(keptUi es a).2.2 ≠ 0, some (wrongV 0 (keptUi es a).2.2), .tup [], mk a⟩,
   ⟨(keptUi es a).2.2 = 0 ∧ k < (keptUi es a).1, some (wrongV 0 240), .tup [], mk (keptUi es a).2.1⟩]
def s66 : PSpec := fun args S => match args, S with
 | [.ptr 3 0, .int .u64 k], ⟨[some b0, some b1, some b2, some [.sl 1 es .no, .int .i64 a]], []⟩ => some (BytL es ∧ 0 ≤ k ∧ k ≤ 1000 ∧ pOk 4 b0 ∧ pOk 4 b1 ∧ pOk 4 b2, manyOuts es a k fun a => u4 b0 b1 b2 es a [])
 | [.ptr 3 0, .int .u64 k], ⟨[some b0, some b1, some b2, some [.sl 1 es .no, .int .i64 a]], [q]⟩ => some (BytL es ∧ 0 ≤ k ∧ k ≤ 1000 ∧ pOk 4 b0 ∧ pOk 4 b1 ∧ pOk 4 b2, manyOuts es a k fun a => u4 b0 b1 b2 es a [q])
 | _, _ => none
def XD : Shapes := fun f => match f with
 | 34 => some shTextR
 | 35 => some shUintR
 | 68 => some shIntR
 | 46 => some shB
 | _ => none
def tD : List (FuncId × Spec) := [(34, sReadText), (35, sReadUint), (68, s68)]
def fsD (f : FuncId) : Bool := f = 65 || f = 66 || f = 67 || f = 115
def g65 : PCfg := { ps := [3], A := nAn }
def g66 : PCfg := { ps := [1, 3], A := nAn }
/-! Read -/
structure R28 where
 r : Rq
 n : Nat
 a : Int
def i0 : List AV := [.int .i64 0]
def rkN (x : R28) : List AV := [.str x.r.entity, .sl 0 [] .nil, .sl 0 [] .nil, .int .i64 0, .int .i64 0]
def rk0 (x : R28) : List AV := [.str x.r.entity, .sl 1 [] (.tok 0), .sl 0 [] .nil, .int .i64 0, .int .i64 0]
def rk1 (x : R28) : List AV := [.str x.r.entity, .sl 1 (strsL x.r.feats) (.tok 0), .sl 0 [] .nil, .int .i64 0, .int .i64 0]
def rk2 (x : R28) : List AV := [.str x.r.entity, .sl 1 (strsL x.r.feats) (.tok 0), .sl 3 [] (.tok 1), .int .i64 0, .int .i64 0]
def rk3 (x : R28) : List AV := [.str x.r.entity, .sl 1 (strsL x.r.feats) (.tok 0), .sl 3 (lbsL x.r.labels) (.tok 1), .int .i64 0, .int .i64 0]
def lk0 (_ : R28) : List (Nat × TypeId) := [(0, 9)]
def lk1 (x : R28) : List (Nat × TypeId) := [(x.r.feats.length, 9)]
def lk2 (x : R28) : List (Nat × TypeId) := [(x.r.feats.length, 9), (0, 65)]
def lk3 (x : R28) : List (Nat × TypeId) := [(x.r.feats.length, 9), (x.r.labels.length, 65)]
def c28 (bs : List UInt8) (sl : List Nat) (vs : R28 → List AV) (rk : R28 → List AV) (lk : R28 → List (Nat × TypeId)) (I : R28 → Prop) (mb : List (Nat × TypeId)) (mu : R28 → Nat) : Option Ann :=
 some { α := R28, slots := [4, 5, 6, 7] ++ sl, nb := 4, vals := fun x => [.ptr 0 0, .ptr 1 0, .ptr 2 0, .ptr 3 0] ++ vs x, sS := fun x => u4 (rk x) i0 i0 (bytesL bs) x.a (lk x), I := I, μ := mu, mintB := mb }
def c28r (bs : List UInt8) (I7 : R28 → Prop) : Option Ann :=
 some { α := R28, slots := [4, 5, 6, 7, 18, 19], nb := 4, vals := fun x => [.ptr 0 0, .ptr 1 0, .ptr 2 0, .ptr 3 0, .int .i64 x.n, .int .i64 (x.r.feats.length - 1 : Int)], sS := fun x => u4 (rk1 x) i0 i0 (bytesL bs) x.a (lk1 x), I := fun x => I7 x, μ := fun _ => 0, rel := fun T y => ValsAre [T.getD 18 (.tup []), T.getD 19 (.tup [])] [.int .i64 y.n, .int .i64 (y.r.feats.length - 1 : Int)] }
def v0 (_ : R28) : List AV := []
def a28 (bs : List UInt8) (a0 : Int) : Anns := ⟨fun k => match k with
 | 1000004 => c28 bs [] v0 rkN (fun _ => []) (fun x => readRq bs a0 = r4 bs x.r x.a ∧ x.r.feats = [] ∧ x.r.labels = [] ∧ x.r.seed = 0 ∧ x.r.permille = 0) [] (fun _ => 0)
 | 1000005 => c28 bs [18, 19] (fun x => [.int .i64 x.n, .int .i64 0]) rk0 lk0 (fun x => readRq bs a0 = rFs bs x.n x.r x.a ∧ x.n ≤ 8 ∧ x.r.feats = [] ∧ x.r.labels = [] ∧ x.r.seed = 0 ∧ x.r.permille = 0) [(1000, 9)] (fun _ => 0)
 | 5 => c28 bs [18, 19] (fun x => [.int .i64 x.n, .int .i64 x.r.feats.length]) rk1 lk1 (fun x => readRq bs a0 = rFs bs (x.n - x.r.feats.length) x.r x.a ∧ x.r.feats.length ≤ x.n ∧ x.n ≤ 8 ∧ x.r.labels = [] ∧ x.r.seed = 0 ∧ x.r.permille = 0) [] (fun x => x.n - x.r.feats.length)
 | 1000007 => c28r bs (fun x => readRq bs a0 = rFs bs (x.n - x.r.feats.length) x.r x.a ∧ 1 ≤ x.r.feats.length ∧ x.r.feats.length ≤ x.n ∧ x.n ≤ 8 ∧ x.r.labels = [] ∧ x.r.seed = 0 ∧ x.r.permille = 0)
 | 1000008 => c28 bs [] v0 rk1 lk1 (fun x => readRq bs a0 = r8 bs x.r x.a ∧ x.r.feats.length ≤ 8 ∧ x.r.labels = [] ∧ x.r.seed = 0 ∧ x.r.permille = 0) [] (fun _ => 0)
 | 1000009 => c28 bs [30, 31] (fun x => [.int .i64 x.n, .int .i64 0]) rk2 lk2 (fun x => readRq bs a0 = rLs bs x.n x.r x.a ∧ x.n ≤ 256 ∧ x.r.feats.length ≤ 8 ∧ x.r.labels = [] ∧ x.r.seed = 0 ∧ x.r.permille = 0) [(2000, 65)] (fun _ => 0)
 | 9 => c28 bs [30, 31] (fun x => [.int .i64 x.n, .int .i64 x.r.labels.length]) rk3 lk3 (fun x => readRq bs a0 = rLs bs (x.n - x.r.labels.length) x.r x.a ∧ x.r.labels.length ≤ x.n ∧ x.n ≤ 256 ∧ x.r.feats.length ≤ 8 ∧ x.r.seed = 0 ∧ x.r.permille = 0) [] (fun x => x.n - x.r.labels.length)
 | 1000015 => c28 bs [] v0 rk3 lk3 (fun x => readRq bs a0 = r15 bs x.r x.a ∧ x.r.seed = 0 ∧ x.r.permille = 0) [] (fun _ => 0)
 | _ => none, nA⟩
def g28 (bs : List UInt8) (a0 : Int) : TCfg := { ps := [3, 4, 6, 8, 10, 11, 12, 15, 16, 18], A := a28 bs a0, dr := 1 }
def t28 : List (FuncId × Spec) := [(46, s46)]
abbrev J28 : InC := ptbl [(65, s65), (66, s66), (67, s67)] J0
theorem w65a (m : Int) (a : Int) (bs : List UInt8) (b0 b1 b2 : List AV) (os : List POut) : (pnW PQ idMk (GQ m) XD (tbl tD) (itbl []) fsD J0 g65 65 [.ptr 3 0, .fn 34 []] (u4 b0 b1 b2 (bytesL bs) a []) os) =
(∃ (s : List UInt8),
  ∃ (n : Int),
    ∃ (n_1 : Int),
      CallIs
 (tbl [((34 : Nat), sReadText), ((35 : Nat), sReadUint), ((68 : Nat), s68)] ((34 : Nat)) [AV.sl ((1 : Nat)) (bytesL bs) Own.no, AV.int IntKind.i64 a])
 (AV.tup [AV.str s, AV.int IntKind.i64 n, AV.int IntKind.i64 n_1]) [] ∧
        ((n_1 != (0 : Int)) = true →
 PEnd
 (AV.p2 (4 : Nat) (AV.tup []) && boxesOk (4 : Nat) [some b0, some b1, some b2, some [AV.sl ((1 : Nat)) (bytesL bs) Own.no, AV.int IntKind.i64 a]])
 (some (Value.iface ((88 : Nat)) (Value.agg #[Value.int IntKind.i64 (0 : Int), Value.int IntKind.i64 n_1]))) (AV.tup [])
 { boxes := [some b0, some b1, some b2, some [AV.sl ((1 : Nat)) (bytesL bs) Own.no, AV.int IntKind.i64 a]], live := [] } os) ∧
 ((n_1 != (0 : Int)) = false →
 PEnd
 (AV.p2 (4 : Nat) (AV.str s) && boxesOk (4 : Nat) [some b0, some b1, some b2, some [AV.sl ((1 : Nat)) (bytesL bs) Own.no, AV.int IntKind.i64 n]])
 none (AV.str s) { boxes := [some b0, some b1, some b2, some [AV.sl ((1 : Nat)) (bytesL bs) Own.no, AV.int IntKind.i64 n]], live := [] } os)) := by kernel_rfl
theorem w65c (m : Int) (a : Int) (bs : List UInt8) (b0 b1 b2 : List AV) (q : Nat × TypeId) (os : List POut) : (pnW PQ idMk (GQ m) XD (tbl tD) (itbl []) fsD J0 g65 65 [.ptr 3 0, .fn 34 []] (u4 b0 b1 b2 (bytesL bs) a [q]) os) =
(∃ (s : List UInt8),
  ∃ (n : Int),
    ∃ (n_1 : Int),
      CallIs
 (tbl [((34 : Nat), sReadText), ((35 : Nat), sReadUint), ((68 : Nat), s68)] ((34 : Nat)) [AV.sl ((1 : Nat)) (bytesL bs) Own.no, AV.int IntKind.i64 a])
 (AV.tup [AV.str s, AV.int IntKind.i64 n, AV.int IntKind.i64 n_1]) [] ∧
        ((n_1 != (0 : Int)) = true →
 PEnd
 (AV.p2 (4 : Nat) (AV.tup []) && boxesOk (4 : Nat) [some b0, some b1, some b2, some [AV.sl ((1 : Nat)) (bytesL bs) Own.no, AV.int IntKind.i64 a]])
 (some (Value.iface ((88 : Nat)) (Value.agg #[Value.int IntKind.i64 (0 : Int), Value.int IntKind.i64 n_1]))) (AV.tup [])
 { boxes := [some b0, some b1, some b2, some [AV.sl ((1 : Nat)) (bytesL bs) Own.no, AV.int IntKind.i64 a]], live := [q] } os) ∧
 ((n_1 != (0 : Int)) = false →
 PEnd
 (AV.p2 (4 : Nat) (AV.str s) && boxesOk (4 : Nat) [some b0, some b1, some b2, some [AV.sl ((1 : Nat)) (bytesL bs) Own.no, AV.int IntKind.i64 n]])
 none (AV.str s) { boxes := [some b0, some b1, some b2, some [AV.sl ((1 : Nat)) (bytesL bs) Own.no, AV.int IntKind.i64 n]], live := [q] } os)) := by kernel_rfl
theorem w65b (m : Int) (a : Int) (bs : List UInt8) (b0 b1 b2 : List AV) (q q2 : Nat × TypeId) (os : List POut) : (pnW PQ idMk (GQ m) XD (tbl tD) (itbl []) fsD J0 g65 65 [.ptr 3 0, .fn 34 []] (u5 b0 b1 b2 (bytesL bs) a none [q, q2]) os) =
(∃ (s : List UInt8),
  ∃ (n : Int),
    ∃ (n_1 : Int),
      CallIs
 (tbl [((34 : Nat), sReadText), ((35 : Nat), sReadUint), ((68 : Nat), s68)] ((34 : Nat)) [AV.sl ((1 : Nat)) (bytesL bs) Own.no, AV.int IntKind.i64 a])
 (AV.tup [AV.str s, AV.int IntKind.i64 n, AV.int IntKind.i64 n_1]) [] ∧
        ((n_1 != (0 : Int)) = true →
 PEnd
 (AV.p2 (5 : Nat) (AV.tup []) &&
 boxesOk (5 : Nat) [some b0, some b1, some b2, some [AV.sl ((1 : Nat)) (bytesL bs) Own.no, AV.int IntKind.i64 a], none])
 (some (Value.iface ((88 : Nat)) (Value.agg #[Value.int IntKind.i64 (0 : Int), Value.int IntKind.i64 n_1]))) (AV.tup [])
 { boxes := [some b0, some b1, some b2, some [AV.sl ((1 : Nat)) (bytesL bs) Own.no, AV.int IntKind.i64 a], none], live := [q, q2] } os) ∧
 ((n_1 != (0 : Int)) = false →
 PEnd
 (AV.p2 (5 : Nat) (AV.str s) &&
 boxesOk (5 : Nat) [some b0, some b1, some b2, some [AV.sl ((1 : Nat)) (bytesL bs) Own.no, AV.int IntKind.i64 n], none])
 none (AV.str s) { boxes := [some b0, some b1, some b2, some [AV.sl ((1 : Nat)) (bytesL bs) Own.no, AV.int IntKind.i64 n], none], live := [q, q2] }
 os)) := by kernel_rfl
theorem w67a (m : Int) (a : Int) (bs : List UInt8) (b0 b1 b2 : List AV) (q q2 : Nat × TypeId) (os : List POut) : (pnW PQ idMk (GQ m) XD (tbl tD) (itbl []) fsD J0 g65 67 [.ptr 3 0, .fn 68 []] (u4 b0 b1 b2 (bytesL bs) a [q, q2]) os) =
(∃ (n : Int),
  ∃ (n_1 : Int),
    ∃ (n_2 : Int),
      CallIs
 (tbl [((34 : Nat), sReadText), ((35 : Nat), sReadUint), ((68 : Nat), s68)] ((68 : Nat)) [AV.sl ((1 : Nat)) (bytesL bs) Own.no, AV.int IntKind.i64 a])
 (AV.tup [AV.int IntKind.i64 n, AV.int IntKind.i64 n_1, AV.int IntKind.i64 n_2]) [] ∧
        ((n_2 != (0 : Int)) = true →
 PEnd
 (AV.p2 (4 : Nat) (AV.tup []) && boxesOk (4 : Nat) [some b0, some b1, some b2, some [AV.sl ((1 : Nat)) (bytesL bs) Own.no, AV.int IntKind.i64 a]])
 (some (Value.iface ((88 : Nat)) (Value.agg #[Value.int IntKind.i64 (0 : Int), Value.int IntKind.i64 n_2]))) (AV.tup [])
 { boxes := [some b0, some b1, some b2, some [AV.sl ((1 : Nat)) (bytesL bs) Own.no, AV.int IntKind.i64 a]], live := [q, q2] } os) ∧
 ((n_2 != (0 : Int)) = false →
 PEnd
 (AV.p2 (4 : Nat) (AV.int IntKind.i64 n) &&
 boxesOk (4 : Nat) [some b0, some b1, some b2, some [AV.sl ((1 : Nat)) (bytesL bs) Own.no, AV.int IntKind.i64 n_1]])
 none (AV.int IntKind.i64 n)
 { boxes := [some b0, some b1, some b2, some [AV.sl ((1 : Nat)) (bytesL bs) Own.no, AV.int IntKind.i64 n_1]], live := [q, q2] } os)) := by kernel_rfl
theorem w67b (m : Int) (a : Int) (bs : List UInt8) (b0 b1 b2 b4 : List AV) (q q2 : Nat × TypeId) (os : List POut) : (pnW PQ idMk (GQ m) XD (tbl tD) (itbl []) fsD J0 g65 67 [.ptr 3 0, .fn 68 []] (u5 b0 b1 b2 (bytesL bs) a (some b4) [q, q2]) os) =
(∃ (n : Int),
  ∃ (n_1 : Int),
    ∃ (n_2 : Int),
      CallIs
 (tbl [((34 : Nat), sReadText), ((35 : Nat), sReadUint), ((68 : Nat), s68)] ((68 : Nat)) [AV.sl ((1 : Nat)) (bytesL bs) Own.no, AV.int IntKind.i64 a])
 (AV.tup [AV.int IntKind.i64 n, AV.int IntKind.i64 n_1, AV.int IntKind.i64 n_2]) [] ∧
        ((n_2 != (0 : Int)) = true →
 PEnd
 (AV.p2 (5 : Nat) (AV.tup []) &&
 boxesOk (5 : Nat) [some b0, some b1, some b2, some [AV.sl ((1 : Nat)) (bytesL bs) Own.no, AV.int IntKind.i64 a], some b4])
 (some (Value.iface ((88 : Nat)) (Value.agg #[Value.int IntKind.i64 (0 : Int), Value.int IntKind.i64 n_2]))) (AV.tup [])
 { boxes := [some b0, some b1, some b2, some [AV.sl ((1 : Nat)) (bytesL bs) Own.no, AV.int IntKind.i64 a], some b4], live := [q, q2] } os) ∧
 ((n_2 != (0 : Int)) = false →
 PEnd
 (AV.p2 (5 : Nat) (AV.int IntKind.i64 n) &&
 boxesOk (5 : Nat) [some b0, some b1, some b2, some [AV.sl ((1 : Nat)) (bytesL bs) Own.no, AV.int IntKind.i64 n_1], some b4])
 none (AV.int IntKind.i64 n)
 { boxes := [some b0, some b1, some b2, some [AV.sl ((1 : Nat)) (bytesL bs) Own.no, AV.int IntKind.i64 n_1], some b4], live := [q, q2] } os)) := by kernel_rfl
theorem w115a (m : Int) (a : Int) (bs : List UInt8) (b0 b1 b2 : List AV) (os : List POut) : (pnW PQ idMk (GQ m) XD (tbl tD) (itbl []) fsD J0 g65 115 [.ptr 3 0, .fn 35 []] (u4 b0 b1 b2 (bytesL bs) a []) os) =
(∃ (n : Int),
  ∃ (n_1 : Int),
    ∃ (n_2 : Int),
      CallIs
 (tbl [((34 : Nat), sReadText), ((35 : Nat), sReadUint), ((68 : Nat), s68)] ((35 : Nat)) [AV.sl ((1 : Nat)) (bytesL bs) Own.no, AV.int IntKind.i64 a])
 (AV.tup [AV.int IntKind.u64 n, AV.int IntKind.i64 n_1, AV.int IntKind.i64 n_2]) [] ∧
        ((n_2 != (0 : Int)) = true →
 PEnd
 (AV.p2 (4 : Nat) (AV.tup []) && boxesOk (4 : Nat) [some b0, some b1, some b2, some [AV.sl ((1 : Nat)) (bytesL bs) Own.no, AV.int IntKind.i64 a]])
 (some (Value.iface ((88 : Nat)) (Value.agg #[Value.int IntKind.i64 (0 : Int), Value.int IntKind.i64 n_2]))) (AV.tup [])
 { boxes := [some b0, some b1, some b2, some [AV.sl ((1 : Nat)) (bytesL bs) Own.no, AV.int IntKind.i64 a]], live := [] } os) ∧
 ((n_2 != (0 : Int)) = false →
 PEnd
 (AV.p2 (4 : Nat) (AV.int IntKind.u64 n) &&
 boxesOk (4 : Nat) [some b0, some b1, some b2, some [AV.sl ((1 : Nat)) (bytesL bs) Own.no, AV.int IntKind.i64 n_1]])
 none (AV.int IntKind.u64 n)
 { boxes := [some b0, some b1, some b2, some [AV.sl ((1 : Nat)) (bytesL bs) Own.no, AV.int IntKind.i64 n_1]], live := [] } os)) := by kernel_rfl
theorem w115 (m : Int) (a : Int) (bs : List UInt8) (b0 b1 b2 : List AV) (q : Nat × TypeId) (os : List POut) : (pnW PQ idMk (GQ m) XD (tbl tD) (itbl []) fsD J0 g65 115 [.ptr 3 0, .fn 35 []] (u4 b0 b1 b2 (bytesL bs) a [q]) os) =
(∃ (n : Int),
  ∃ (n_1 : Int),
    ∃ (n_2 : Int),
      CallIs
 (tbl [((34 : Nat), sReadText), ((35 : Nat), sReadUint), ((68 : Nat), s68)] ((35 : Nat)) [AV.sl ((1 : Nat)) (bytesL bs) Own.no, AV.int IntKind.i64 a])
 (AV.tup [AV.int IntKind.u64 n, AV.int IntKind.i64 n_1, AV.int IntKind.i64 n_2]) [] ∧
        ((n_2 != (0 : Int)) = true →
 PEnd
 (AV.p2 (4 : Nat) (AV.tup []) && boxesOk (4 : Nat) [some b0, some b1, some b2, some [AV.sl ((1 : Nat)) (bytesL bs) Own.no, AV.int IntKind.i64 a]])
 (some (Value.iface ((88 : Nat)) (Value.agg #[Value.int IntKind.i64 (0 : Int), Value.int IntKind.i64 n_2]))) (AV.tup [])
 { boxes := [some b0, some b1, some b2, some [AV.sl ((1 : Nat)) (bytesL bs) Own.no, AV.int IntKind.i64 a]], live := [q] } os) ∧
 ((n_2 != (0 : Int)) = false →
 PEnd
 (AV.p2 (4 : Nat) (AV.int IntKind.u64 n) &&
 boxesOk (4 : Nat) [some b0, some b1, some b2, some [AV.sl ((1 : Nat)) (bytesL bs) Own.no, AV.int IntKind.i64 n_1]])
 none (AV.int IntKind.u64 n)
 { boxes := [some b0, some b1, some b2, some [AV.sl ((1 : Nat)) (bytesL bs) Own.no, AV.int IntKind.i64 n_1]], live := [q] } os)) := by kernel_rfl
abbrev w66ac1 (b0 : List AV) (b1 : List AV) (b2 : List AV) (bs : List UInt8) (a : Int) : List (Option (List AV)) := [some b0, some b1, some b2, some [AV.sl ((1 : Nat)) (bytesL bs) Own.no, AV.int IntKind.i64 (keptUi (bytesL bs) a).snd.fst]]
theorem w66a (m : Int) (a k : Int) (bs : List UInt8) (b0 b1 b2 : List AV) (os : List POut) : (pnW PQ idMk (GQ m) XD (tbl tD) (itbl []) fsD (ptbl [(115, s115)] J0) g66 66 [.ptr 3 0, .int .u64 k] (u4 b0 b1 b2 (bytesL bs) a []) os) =
((BytL (bytesL bs) ∧ b0.all (AV.p1 (4 : Nat)) = true ∧ b1.all (AV.p1 (4 : Nat)) = true ∧ b2.all (AV.p1 (4 : Nat)) = true) ∧ ((keptUi (bytesL bs) a).snd.snd = (0 : Int) → (decide ((keptUi (bytesL bs) a).fst > k) = true → PEnd (AV.p2 (4 : Nat) (AV.tup []) && boxesOk (4 : Nat) (w66ac1 b0 b1 b2 bs a)) (some (Value.iface ((88 : Nat)) (Value.agg #[Value.int IntKind.i64 (0 : Int), Value.int IntKind.i64 (240 : Int)]))) (AV.tup []) { boxes := (w66ac1 b0 b1 b2 bs a), live := [] } os) ∧ (decide ((keptUi (bytesL bs) a).fst > k) = false → PEnd (AV.p2 (4 : Nat) (AV.int IntKind.i64 (IntKind.i64.wrap (keptUi (bytesL bs) a).fst)) && boxesOk (4 : Nat) (w66ac1 b0 b1 b2 bs a)) none (AV.int IntKind.i64 (IntKind.i64.wrap (keptUi (bytesL bs) a).fst)) { boxes := (w66ac1 b0 b1 b2 bs a), live := [] } os)) ∧ (((keptUi (bytesL bs) a).snd.snd = (0 : Int) → False) → PEnd (AV.p2 (4 : Nat) (AV.tup []) && boxesOk (4 : Nat) [some b0, some b1, some b2, some [AV.sl ((1 : Nat)) (bytesL bs) Own.no, AV.int IntKind.i64 a]]) (some (Value.iface ((88 : Nat)) (Value.agg #[Value.int IntKind.i64 (0 : Int), Value.int IntKind.i64 (keptUi (bytesL bs) a).snd.snd]))) (AV.tup []) { boxes := [some b0, some b1, some b2, some [AV.sl ((1 : Nat)) (bytesL bs) Own.no, AV.int IntKind.i64 a]], live := [] } os) ∧ True) := by kernel_rfl
abbrev w66c1 (b0 : List AV) (b1 : List AV) (b2 : List AV) (bs : List UInt8) (a : Int) : List (Option (List AV)) := [some b0, some b1, some b2, some [AV.sl ((1 : Nat)) (bytesL bs) Own.no, AV.int IntKind.i64 (keptUi (bytesL bs) a).snd.fst]]
theorem w66 (m : Int) (a k : Int) (bs : List UInt8) (b0 b1 b2 : List AV) (q : Nat × TypeId) (os : List POut) : (pnW PQ idMk (GQ m) XD (tbl tD) (itbl []) fsD (ptbl [(115, s115)] J0) g66 66 [.ptr 3 0, .int .u64 k] (u4 b0 b1 b2 (bytesL bs) a [q]) os) =
((BytL (bytesL bs) ∧ b0.all (AV.p1 (4 : Nat)) = true ∧ b1.all (AV.p1 (4 : Nat)) = true ∧ b2.all (AV.p1 (4 : Nat)) = true) ∧ ((keptUi (bytesL bs) a).snd.snd = (0 : Int) → (decide ((keptUi (bytesL bs) a).fst > k) = true → PEnd (AV.p2 (4 : Nat) (AV.tup []) && boxesOk (4 : Nat) (w66c1 b0 b1 b2 bs a)) (some (Value.iface ((88 : Nat)) (Value.agg #[Value.int IntKind.i64 (0 : Int), Value.int IntKind.i64 (240 : Int)]))) (AV.tup []) { boxes := (w66c1 b0 b1 b2 bs a), live := [q] } os) ∧ (decide ((keptUi (bytesL bs) a).fst > k) = false → PEnd (AV.p2 (4 : Nat) (AV.int IntKind.i64 (IntKind.i64.wrap (keptUi (bytesL bs) a).fst)) && boxesOk (4 : Nat) (w66c1 b0 b1 b2 bs a)) none (AV.int IntKind.i64 (IntKind.i64.wrap (keptUi (bytesL bs) a).fst)) { boxes := (w66c1 b0 b1 b2 bs a), live := [q] } os)) ∧ (((keptUi (bytesL bs) a).snd.snd = (0 : Int) → False) → PEnd (AV.p2 (4 : Nat) (AV.tup []) && boxesOk (4 : Nat) [some b0, some b1, some b2, some [AV.sl ((1 : Nat)) (bytesL bs) Own.no, AV.int IntKind.i64 a]]) (some (Value.iface ((88 : Nat)) (Value.agg #[Value.int IntKind.i64 (0 : Int), Value.int IntKind.i64 (keptUi (bytesL bs) a).snd.snd]))) (AV.tup []) { boxes := [some b0, some b1, some b2, some [AV.sl ((1 : Nat)) (bytesL bs) Own.no, AV.int IntKind.i64 a]], live := [q] } os) ∧ True) := by kernel_rfl
theorem bOkI4 {b0 b1 b2 : List AV} {es : List AV} {a : Int} (h0 : pOk 4 b0) (h1 : pOk 4 b1) (h2 : pOk 4 b2) : boxesOk 4 [some b0, some b1, some b2, some [.sl 1 es .no, .int .i64 a]] = true := by
 unfold pOk at h0 h1 h2
 simp only [boxesOk, h0, h1, h2, Bool.or_true, Bool.true_and]
 rfl
theorem bOkI5 {b0 b1 b2 : List AV} {b4 : Option (List AV)} {es : List AV} {a : Int} (h0 : pOk 5 b0) (h1 : pOk 5 b1) (h2 : pOk 5 b2) (h4 : boxesOk 5 [b4] = true) : boxesOk 5 [some b0, some b1, some b2, some [.sl 1 es .no, .int .i64 a], b4] = true := by
 unfold pOk at h0 h1 h2
 have : boxesOk 5 (some b0 :: some b1 :: some b2 :: some [.sl 1 es .no, .int .i64 a] :: [b4]) = boxesOk 5 [b4] := by
  simp only [boxesOk, h0, h1, h2, Bool.or_true, Bool.true_and]
  rfl
 rw [this, h4]
theorem tblMiss {f g : FuncId} {s : Spec} {l : List (FuncId × Spec)} {args : List AV} (h : f ≠ g) : tbl ((g, s) :: l) f args = tbl l f args := by simp only [tbl, if_neg h]
theorem sReadText_at {bs : List UInt8} {at_ : Int} {o : Own} (h : strOk bs) : sReadText [.sl 1 (bytesL bs) o, .int .i64 at_] = some (rText (textA bs at_), []) := by
 unfold strOk at h
 have h2 : lenOk bs := by unfold lenOk; omega
 simp only [sReadText, true_or, if_true, unBytes_mk, Option.bind_some, h2, rText]
theorem s68_at {bs : List UInt8} {at_ : Int} {o : Own} (h : strOk bs) : s68 [.sl 1 (bytesL bs) o, .int .i64 at_] = some (wInt (sintA bs at_), []) := sRd_at h
theorem tD_ok (m : Int) : CalleeOk PQ (GQ m) (tbl tD) := tbl_cons o34 (tbl_cons o35 (tbl_cons (o68 m) tbl_nil))
theorem two_ok {ok : Bool} {r : AV} {S1 S2 : St} {c : Prop} {v : Value} (hc : c) (hok : ok = true) : PEnd ok none r S1 [⟨c, none, r, S1⟩, ⟨¬ c, some v, .tup [], S2⟩] := ⟨hok, _, List.mem_cons_self, hc, rfl, rfl, rfl⟩
theorem two_no {ok : Bool} {r : AV} {S1 S2 : St} {c : Prop} {v : Value} (hc : ¬ c) (hok : ok = true) : PEnd ok (some v) (.tup []) S2 [⟨c, none, r, S1⟩, ⟨¬ c, some v, .tup [], S2⟩] := ⟨hok, _, List.mem_cons_of_mem _ List.mem_cons_self, hc, rfl, rfl, rfl⟩
theorem keptTx_ok (bs : List UInt8) (a : Int) : keptTx (bytesL bs) a = textA bs a := by unfold keptTx; rw [keptBy_ok]
theorem keptIn_ok (bs : List UInt8) (a : Int) : keptIn (bytesL bs) a = sintA bs a := by unfold keptIn; rw [keptBy_ok]
theorem keptUi_ok (bs : List UInt8) (a : Int) : keptUi (bytesL bs) a = uintA bs a := by unfold keptUi; rw [keptBy_ok]
theorem wrapUi (a : Int) (bs : List UInt8) (_ : strOk bs) (k : Int) (hk : k ≤ 1000) (c : ¬ k < (uintA bs a).1) : IntKind.i64.wrap (uintA bs a).1 = (uintA bs a).1 := by
 obtain ⟨h0, h1⟩ := uintA_bound (bs := bs) (at_ := a)
 rw [wrapi64]; omega
section
variable (m a : Int) (bs : List UInt8) (b0 b1 b2 b4 : List AV) (q q2 : Nat × TypeId) (hb : strOk bs)
include hb
theorem p65a (h0 : pOk 4 b0) (h1 : pOk 4 b1) (h2 : pOk 4 b2) : PnOk PQ (GQ m) XD (tbl tD) (itbl []) fsD J0 g65 65 [.ptr 3 0, .fn 34 []] (u4 b0 b1 b2 (bytesL bs) a []) (txOuts (bytesL bs) a fun a => u4 b0 b1 b2 (bytesL bs) a []) := by
 constructor
 rw [w65a, tbl_hit, sReadText_at hb]; unfold txOuts; rw [keptTx_ok]
 refine ⟨_, _, _, callSome rfl, fun c => two_no (by simpa using c) (by rw [bOkI4 h0 h1 h2]; rfl), fun c => two_ok (by simpa using c) (by rw [bOkI4 h0 h1 h2]; rfl)⟩
theorem p65c (h0 : pOk 4 b0) (h1 : pOk 4 b1) (h2 : pOk 4 b2) : PnOk PQ (GQ m) XD (tbl tD) (itbl []) fsD J0 g65 65 [.ptr 3 0, .fn 34 []] (u4 b0 b1 b2 (bytesL bs) a [q]) (txOuts (bytesL bs) a fun a => u4 b0 b1 b2 (bytesL bs) a [q]) := by
 constructor
 rw [w65c, tbl_hit, sReadText_at hb]; unfold txOuts; rw [keptTx_ok]
 refine ⟨_, _, _, callSome rfl, fun c => two_no (by simpa using c) (by rw [bOkI4 h0 h1 h2]; rfl), fun c => two_ok (by simpa using c) (by rw [bOkI4 h0 h1 h2]; rfl)⟩
theorem p65b (h0 : pOk 5 b0) (h1 : pOk 5 b1) (h2 : pOk 5 b2) : PnOk PQ (GQ m) XD (tbl tD) (itbl []) fsD J0 g65 65 [.ptr 3 0, .fn 34 []] (u5 b0 b1 b2 (bytesL bs) a none [q, q2]) (txOuts (bytesL bs) a fun a => u5 b0 b1 b2 (bytesL bs) a none [q, q2]) := by
 constructor
 rw [w65b, tbl_hit, sReadText_at hb]; unfold txOuts; rw [keptTx_ok]
 refine ⟨_, _, _, callSome rfl, fun c => two_no (by simpa using c) (by rw [bOkI5 h0 h1 h2 rfl]; rfl), fun c => two_ok (by simpa using c) (by rw [bOkI5 h0 h1 h2 rfl]; rfl)⟩
theorem p67a (h0 : pOk 4 b0) (h1 : pOk 4 b1) (h2 : pOk 4 b2) : PnOk PQ (GQ m) XD (tbl tD) (itbl []) fsD J0 g65 67 [.ptr 3 0, .fn 68 []] (u4 b0 b1 b2 (bytesL bs) a [q, q2]) (inOuts (bytesL bs) a fun a => u4 b0 b1 b2 (bytesL bs) a [q, q2]) := by
 constructor
 rw [w67a, tblMiss (by decide), tblMiss (by decide), tbl_hit, s68_at hb]; unfold inOuts; rw [keptIn_ok]
 refine ⟨_, _, _, callSome rfl, fun c => two_no (by simpa using c) (by rw [bOkI4 h0 h1 h2]; rfl), fun c => two_ok (by simpa using c) (by rw [bOkI4 h0 h1 h2]; rfl)⟩
theorem p67b (h0 : pOk 5 b0) (h1 : pOk 5 b1) (h2 : pOk 5 b2) (h4 : pOk 5 b4) : PnOk PQ (GQ m) XD (tbl tD) (itbl []) fsD J0 g65 67 [.ptr 3 0, .fn 68 []] (u5 b0 b1 b2 (bytesL bs) a (some b4) [q, q2]) (inOuts (bytesL bs) a fun a => u5 b0 b1 b2 (bytesL bs) a (some b4) [q, q2]) := by
 have h5 : boxesOk 5 [some b4] = true := by
  unfold pOk at h4
  simp only [boxesOk, h4, Bool.or_true, Bool.true_and]
 constructor
 rw [w67b, tblMiss (by decide), tblMiss (by decide), tbl_hit, s68_at hb]; unfold inOuts; rw [keptIn_ok]
 refine ⟨_, _, _, callSome rfl, fun c => two_no (by simpa using c) (by rw [bOkI5 h0 h1 h2 h5]; rfl), fun c => two_ok (by simpa using c) (by rw [bOkI5 h0 h1 h2 h5]; rfl)⟩
theorem p115a (h0 : pOk 4 b0) (h1 : pOk 4 b1) (h2 : pOk 4 b2) : PnOk PQ (GQ m) XD (tbl tD) (itbl []) fsD J0 g65 115 [.ptr 3 0, .fn 35 []] (u4 b0 b1 b2 (bytesL bs) a []) (uiOuts (bytesL bs) a fun a => u4 b0 b1 b2 (bytesL bs) a []) := by
 constructor
 rw [w115a, tblMiss (by decide), tbl_hit, sReadUint_at hb]; unfold uiOuts; rw [keptUi_ok]
 refine ⟨_, _, _, callSome rfl, fun c => two_no (by simpa using c) (by rw [bOkI4 h0 h1 h2]; rfl), fun c => two_ok (by simpa using c) (by rw [bOkI4 h0 h1 h2]; rfl)⟩
theorem p115 (h0 : pOk 4 b0) (h1 : pOk 4 b1) (h2 : pOk 4 b2) : PnOk PQ (GQ m) XD (tbl tD) (itbl []) fsD J0 g65 115 [.ptr 3 0, .fn 35 []] (u4 b0 b1 b2 (bytesL bs) a [q]) (uiOuts (bytesL bs) a fun a => u4 b0 b1 b2 (bytesL bs) a [q]) := by
 constructor
 rw [w115, tblMiss (by decide), tbl_hit, sReadUint_at hb]; unfold uiOuts; rw [keptUi_ok]
 refine ⟨_, _, _, callSome rfl, fun c => two_no (by simpa using c) (by rw [bOkI4 h0 h1 h2]; rfl), fun c => two_ok (by simpa using c) (by rw [bOkI4 h0 h1 h2]; rfl)⟩
variable (k : Int) (hk : k ≤ 1000)
include hk
theorem p66a (h0 : pOk 4 b0) (h1 : pOk 4 b1) (h2 : pOk 4 b2) : PnOk PQ (GQ m) XD (tbl tD) (itbl []) fsD (ptbl [(115, s115)] J0) g66 66 [.ptr 3 0, .int .u64 k] (u4 b0 b1 b2 (bytesL bs) a []) (manyOuts (bytesL bs) a k fun a => u4 b0 b1 b2 (bytesL bs) a []) := by
 constructor
 rw [w66a]; unfold w66ac1; unfold manyOuts; rw [keptUi_ok]
 refine ⟨⟨⟨bs, rfl, hb⟩, h0, h1, h2⟩, fun c => ⟨fun d => ⟨by rw [bOkI4 h0 h1 h2]; rfl, _, List.mem_cons_of_mem _ (List.mem_cons_of_mem _ List.mem_cons_self), ⟨c, of_decide_eq_true d⟩, rfl, rfl, rfl⟩, fun d => ⟨by rw [bOkI4 h0 h1 h2]; rfl, _, List.mem_cons_self, ⟨c, Int.not_lt.mp (of_decide_eq_false d)⟩, rfl, by rw [wrapUi a bs hb k hk (of_decide_eq_false d)], rfl⟩⟩, fun c => ⟨by rw [bOkI4 h0 h1 h2]; rfl, _, List.mem_cons_of_mem _ List.mem_cons_self, c, rfl, rfl, rfl⟩, trivial⟩
theorem p66 (h0 : pOk 4 b0) (h1 : pOk 4 b1) (h2 : pOk 4 b2) : PnOk PQ (GQ m) XD (tbl tD) (itbl []) fsD (ptbl [(115, s115)] J0) g66 66 [.ptr 3 0, .int .u64 k] (u4 b0 b1 b2 (bytesL bs) a [q]) (manyOuts (bytesL bs) a k fun a => u4 b0 b1 b2 (bytesL bs) a [q]) := by
 constructor
 rw [w66]; unfold w66c1; unfold manyOuts; rw [keptUi_ok]
 refine ⟨⟨⟨bs, rfl, hb⟩, h0, h1, h2⟩, fun c => ⟨fun d => ⟨by rw [bOkI4 h0 h1 h2]; rfl, _, List.mem_cons_of_mem _ (List.mem_cons_of_mem _ List.mem_cons_self), ⟨c, of_decide_eq_true d⟩, rfl, rfl, rfl⟩, fun d => ⟨by rw [bOkI4 h0 h1 h2]; rfl, _, List.mem_cons_self, ⟨c, Int.not_lt.mp (of_decide_eq_false d)⟩, rfl, by rw [wrapUi a bs hb k hk (of_decide_eq_false d)], rfl⟩⟩, fun c => ⟨by rw [bOkI4 h0 h1 h2]; rfl, _, List.mem_cons_of_mem _ List.mem_cons_self, c, rfl, rfl, rfl⟩, trivial⟩
end
theorem o65 (m : Int) : PSpecOk PQ (GQ m) 65 s65 := pspec_of mixedQ fun args S p os h hp => by
 unfold s65 at h
 split at h
 case h_4 => cases h
 all_goals
  injection h with h
  injection h with e1 e2
  subst e1; subst e2
  obtain ⟨⟨bs, rfl, hb⟩, h0, h1, h2⟩ := hp
 ·exact ⟨_, _, _, _, _, _, tD_ok m, itbl_nil, J0_ok, p65a m _ bs _ _ _ hb h0 h1 h2⟩
 ·exact ⟨_, _, _, _, _, _, tD_ok m, itbl_nil, J0_ok, p65c m _ bs _ _ _ _ hb h0 h1 h2⟩
 ·exact ⟨_, _, _, _, _, _, tD_ok m, itbl_nil, J0_ok, p65b m _ bs _ _ _ _ _ hb h0 h1 h2⟩
theorem o67 (m : Int) : PSpecOk PQ (GQ m) 67 s67 := pspec_of mixedQ fun args S p os h hp => by
 unfold s67 at h
 split at h
 case h_3 => cases h
 all_goals
  injection h with h
  injection h with e1 e2
  subst e1; subst e2
 ·obtain ⟨⟨bs, rfl, hb⟩, h0, h1, h2⟩ := hp
  exact ⟨_, _, _, _, _, _, tD_ok m, itbl_nil, J0_ok, p67a m _ bs _ _ _ _ _ hb h0 h1 h2⟩
 ·obtain ⟨⟨bs, rfl, hb⟩, h0, h1, h2, h4⟩ := hp
  exact ⟨_, _, _, _, _, _, tD_ok m, itbl_nil, J0_ok, p67b m _ bs _ _ _ _ _ _ hb h0 h1 h2 h4⟩
theorem o115 (m : Int) : PSpecOk PQ (GQ m) 115 s115 := pspec_of mixedQ fun args S p os h hp => by
 unfold s115 at h
 split at h
 case h_3 => cases h
 all_goals
  injection h with h
  injection h with e1 e2
  subst e1; subst e2
  obtain ⟨⟨bs, rfl, hb⟩, h0, h1, h2⟩ := hp
 ·exact ⟨_, _, _, _, _, _, tD_ok m, itbl_nil, J0_ok, p115a m _ bs _ _ _ hb h0 h1 h2⟩
 ·exact ⟨_, _, _, _, _, _, tD_ok m, itbl_nil, J0_ok, p115 m _ bs _ _ _ _ hb h0 h1 h2⟩
theorem o66 (m : Int) : PSpecOk PQ (GQ m) 66 s66 := pspec_of mixedQ fun args S p os h hp => by
 unfold s66 at h
 split at h
 case h_3 => cases h
 all_goals
  injection h with h
  injection h with e1 e2
  subst e1; subst e2
  obtain ⟨⟨bs, rfl, hb⟩, hk0, hk, h0, h1, h2⟩ := hp
 ·exact ⟨_, _, _, _, _, _, tD_ok m, itbl_nil, ptbl_cons (o115 m) (ptbl_nil J0_ok), p66a m _ bs _ _ _ hb _ hk h0 h1 h2⟩
 ·exact ⟨_, _, _, _, _, _, tD_ok m, itbl_nil, ptbl_cons (o115 m) (ptbl_nil J0_ok), p66 m _ bs _ _ _ _ hb _ hk h0 h1 h2⟩
abbrev w28c24 (bs : List UInt8) (y : R28) : List AV := [AV.sl ((1 : Nat)) (bytesL bs) Own.no, AV.int IntKind.i64 y.a]
abbrev w28c6 (y : R28) (bs : List UInt8) : St := { boxes := [some [AV.str y.r.entity, AV.sl ((1 : Nat)) (strsL y.r.feats) (Own.tok ((0 : Nat))), AV.sl ((0 : Nat)) [] Own.nil, AV.int IntKind.i64 (0 : Int), AV.int IntKind.i64 (0 : Int)], some [AV.int IntKind.i64 (0 : Int)], some [AV.int IntKind.i64 (0 : Int)], some (w28c24 bs y)], live := [(y.r.feats.length, (9 : Nat))] }
abbrev w28c1 (x : R28) (bs : List UInt8) (a : Int) : Prop := (((1 : Nat) = (1 : Nat) ∨ strsL x.r.feats = []) ∧ ((strsL x.r.feats).length + (1 : Nat)) * (17 : Nat) ≤ (70368744177664 : Nat) ∧ x.r.feats.length = (strsL x.r.feats).length ∧ ((∃ (y : R28), ValsAre [AV.ptr ((0 : Nat)) ((0 : Nat)), AV.ptr ((1 : Nat)) ((0 : Nat)), AV.ptr ((2 : Nat)) ((0 : Nat)), AV.ptr ((3 : Nat)) ((0 : Nat)), AV.int IntKind.i64 (↑x.n : Int), AV.int IntKind.i64 (↑x.r.feats.length : Int)] [AV.ptr ((0 : Nat)) ((0 : Nat)), AV.ptr ((1 : Nat)) ((0 : Nat)), AV.ptr ((2 : Nat)) ((0 : Nat)), AV.ptr ((3 : Nat)) ((0 : Nat)), AV.int IntKind.i64 (↑y.n : Int), AV.int IntKind.i64 ((↑y.r.feats.length : Int) - (1 : Int))] ∧ StIs { boxes := [some [AV.str x.r.entity, AV.sl ((1 : Nat)) (strsL x.r.feats ++ [AV.str (keptTx (bytesL bs) x.a).fst]) (Own.tok ((0 : Nat))), AV.sl ((0 : Nat)) [] Own.nil, AV.int IntKind.i64 (0 : Int), AV.int IntKind.i64 (0 : Int)], some [AV.int IntKind.i64 (0 : Int)], some [AV.int IntKind.i64 (0 : Int)], some [AV.sl ((1 : Nat)) (bytesL bs) Own.no, AV.int IntKind.i64 (keptTx (bytesL bs) x.a).snd.fst]], live := [((strsL x.r.feats).length + (1 : Nat), (9 : Nat))] } (w28c6 y bs) ∧ (readRq bs a = rFs bs (y.n - y.r.feats.length) y.r y.a ∧ (1 : Nat) ≤ y.r.feats.length ∧ y.r.feats.length ≤ y.n ∧ y.n ≤ (8 : Nat) ∧ y.r.labels = [] ∧ y.r.seed = (0 : Int) ∧ y.r.permille = (0 : Int)) ∧ ValsAre [AV.int IntKind.i64 (↑x.n : Int), AV.int IntKind.i64 (↑x.r.feats.length : Int)] [AV.int IntKind.i64 (↑y.n : Int), AV.int IntKind.i64 ((↑y.r.feats.length : Int) - (1 : Int))]) ∧ True) ∧ True) ∧ True
abbrev w28c3 : List AV := [AV.str [], AV.sl ((0 : Nat)) [] Own.nil, AV.sl ((0 : Nat)) [] Own.nil, AV.int IntKind.i64 (0 : Int), AV.int IntKind.i64 (0 : Int)]
abbrev w28c4 (x : R28) : List AV := [AV.str x.r.entity, AV.sl ((1 : Nat)) (strsL x.r.feats) (Own.tok ((0 : Nat))), AV.sl ((0 : Nat)) [] Own.nil, AV.int IntKind.i64 (0 : Int), AV.int IntKind.i64 (0 : Int)]
abbrev w28c15 (x : R28) (r : AV) : Prop := true = false → RetLax (AV.tup [AV.agg (w28c4 x), AV.int IntKind.i64 (0 : Int), AV.int IntKind.i64 (0 : Int)]) (r, [])
abbrev w28c2 (bs : List UInt8) (x : R28) (r : AV) : Prop := ((keptTx (bytesL bs) x.a).snd.snd = (0 : Int) → False) → Option.all litOk (some (Value.iface ((88 : Nat)) (Value.agg #[Value.int IntKind.i64 (0 : Int), Value.int IntKind.i64 (keptTx (bytesL bs) x.a).snd.snd]))) = true ∧ (true = true → RetLax (AV.tup [AV.agg w28c3, AV.int IntKind.i64 (0 : Int), AV.int IntKind.i64 (keptTx (bytesL bs) x.a).snd.snd]) (r, [])) ∧ (w28c15 x r)
abbrev w28c5 (x : R28) : List AV := [AV.str x.r.entity, AV.sl ((1 : Nat)) (strsL x.r.feats) (Own.tok ((0 : Nat))), AV.sl ((3 : Nat)) (lbsL x.r.labels) (Own.tok ((1 : Nat))), AV.int IntKind.i64 (0 : Int), AV.int IntKind.i64 (0 : Int)]
abbrev w28c7 (y : R28) (bs : List UInt8) : St := { boxes := [some [AV.str y.r.entity, AV.sl ((1 : Nat)) (strsL y.r.feats) (Own.tok ((0 : Nat))), AV.sl ((3 : Nat)) (lbsL y.r.labels) (Own.tok ((1 : Nat))), AV.int IntKind.i64 (0 : Int), AV.int IntKind.i64 (0 : Int)], some [AV.int IntKind.i64 (0 : Int)], some [AV.int IntKind.i64 (0 : Int)], some (w28c24 bs y)], live := [(y.r.feats.length, (9 : Nat)), (y.r.labels.length, (65 : Nat))] }
abbrev w28c8 : List AV := [AV.ptr ((0 : Nat)) ((0 : Nat)), AV.ptr ((1 : Nat)) ((0 : Nat)), AV.ptr ((2 : Nat)) ((0 : Nat)), AV.ptr ((3 : Nat)) ((0 : Nat))]
abbrev w28c9 (bs : List UInt8) (x : R28) := keptIn (bytesL bs) (keptTx (bytesL bs) x.a).snd.fst
abbrev w28c16 (bs : List UInt8) (x : R28) : Prop := BytL (bytesL bs) ∧ (w28c4 x).all (AV.p1 (4 : Nat)) = true ∧ true = true ∧ true = true
abbrev w28c10 (bs : List UInt8) (x : R28) (a : Int) (r : AV) : Prop := (((w28c16 bs x) ∧ ((keptTx (bytesL bs) x.a).snd.snd = (0 : Int) → (w28c1 x bs a) ∧ True) ∧ (w28c2 bs x r) ∧ True) ∧ True) ∧ ((w28c16 bs x) ∧ ((keptTx (bytesL bs) x.a).snd.snd = (0 : Int) → ((w28c1 x bs a) ∧ True) ∧ ((w28c1 x bs a) ∧ True) ∧ True) ∧ (w28c2 bs x r) ∧ True) ∧ True
abbrev w28c11 (x : R28) (r : AV) : Prop := true = false → RetLax (AV.tup [AV.agg (w28c5 x), AV.int IntKind.i64 (0 : Int), AV.int IntKind.i64 (0 : Int)]) (r, [])
abbrev w28c12 (x : R28) : List AV := [AV.str x.r.entity, AV.sl ((0 : Nat)) [] Own.nil, AV.sl ((0 : Nat)) [] Own.nil, AV.int IntKind.i64 (0 : Int), AV.int IntKind.i64 (0 : Int)]
abbrev w28c13 (bs : List UInt8) (x : R28) := keptIn (bytesL bs) (keptIn (bytesL bs) x.a).snd.fst
abbrev w28c14 (r : AV) : Prop := true = true → RetLax (AV.tup [AV.agg w28c3, AV.int IntKind.i64 (0 : Int), AV.int IntKind.i64 (240 : Int)]) (r, [])
abbrev w28c17 (y : R28) : List AV := [AV.ptr ((0 : Nat)) ((0 : Nat)), AV.ptr ((1 : Nat)) ((0 : Nat)), AV.ptr ((2 : Nat)) ((0 : Nat)), AV.ptr ((3 : Nat)) ((0 : Nat)), AV.int IntKind.i64 (↑y.n : Int), AV.int IntKind.i64 (↑y.r.labels.length : Int)]
abbrev w28c18 (y : R28) : List AV := [AV.ptr ((0 : Nat)) ((0 : Nat)), AV.ptr ((1 : Nat)) ((0 : Nat)), AV.ptr ((2 : Nat)) ((0 : Nat)), AV.ptr ((3 : Nat)) ((0 : Nat)), AV.int IntKind.i64 (↑y.n : Int), AV.int IntKind.i64 (↑y.r.feats.length : Int)]
abbrev w28c19 (x : R28) (bs : List UInt8) : List AV := [AV.str x.r.entity, AV.sl ((1 : Nat)) (strsL x.r.feats) (Own.tok ((0 : Nat))), AV.sl ((3 : Nat)) (lbsL x.r.labels) (Own.tok ((1 : Nat))), AV.int IntKind.i64 (keptIn (bytesL bs) x.a).fst, AV.int IntKind.i64 (w28c13 bs x).fst]
abbrev w28c20 (x : R28) (bs : List UInt8) : List AV := [AV.str x.r.entity, AV.sl ((1 : Nat)) (strsL x.r.feats) (Own.tok ((0 : Nat))), AV.sl ((3 : Nat)) (lbsL x.r.labels) (Own.tok ((1 : Nat))), AV.int IntKind.i64 (keptIn (bytesL bs) x.a).fst, AV.int IntKind.i64 (0 : Int)]
abbrev w28c21 (y : R28) : List AV := [AV.ptr ((0 : Nat)) ((0 : Nat)), AV.ptr ((1 : Nat)) ((0 : Nat)), AV.ptr ((2 : Nat)) ((0 : Nat)), AV.ptr ((3 : Nat)) ((0 : Nat)), AV.int IntKind.i64 (↑y.n : Int), AV.int IntKind.i64 (0 : Int)]
abbrev w28c22 (x : R28) : List AV := [AV.ptr ((0 : Nat)) ((0 : Nat)), AV.ptr ((1 : Nat)) ((0 : Nat)), AV.ptr ((2 : Nat)) ((0 : Nat)), AV.ptr ((3 : Nat)) ((0 : Nat)), AV.int IntKind.i64 (↑x.n : Int), AV.int IntKind.i64 (0 : Int)]
abbrev w28c23 (bs : List UInt8) (x : R28) : List AV := [AV.ptr ((0 : Nat)) ((0 : Nat)), AV.ptr ((1 : Nat)) ((0 : Nat)), AV.ptr ((2 : Nat)) ((0 : Nat)), AV.ptr ((3 : Nat)) ((0 : Nat)), AV.int IntKind.i64 (keptUi (bytesL bs) x.a).fst, AV.int IntKind.i64 (0 : Int)]
abbrev w28c25 (bs : List UInt8) (a : Int) (y : R28) : Prop := readRq bs a = rLs bs (y.n - y.r.labels.length) y.r y.a ∧ y.r.labels.length ≤ y.n ∧ y.n ≤ (256 : Nat) ∧ y.r.feats.length ≤ (8 : Nat) ∧ y.r.seed = (0 : Int) ∧ y.r.permille = (0 : Int)
abbrev w28c26 (bs : List UInt8) (x : R28) : List AV := [AV.sl ((1 : Nat)) (bytesL bs) Own.no, AV.int IntKind.i64 x.a]
theorem w28 (m : Int) (a : Int) (bs : List UInt8) (r : AV) : (tlaxW PQ idMk (GQ m) XD (tbl t28) (itbl []) fsD J28 (g28 bs a) 28 [bytesA bs, .int .i64 a] (r, [])) =
(((BytL (bytesL bs) ∧ true = true ∧ true = true ∧ true = true) ∧ ((keptTx (bytesL bs) a).snd.snd = (0 : Int) → ∃ (y : R28), ValsAre w28c8 w28c8 ∧ StIs { boxes := [some [AV.str (keptTx (bytesL bs) a).fst, AV.sl ((0 : Nat)) [] Own.nil, AV.sl ((0 : Nat)) [] Own.nil, AV.int IntKind.i64 (0 : Int), AV.int IntKind.i64 (0 : Int)], some [AV.int IntKind.i64 (0 : Int)], some [AV.int IntKind.i64 (0 : Int)], some [AV.sl ((1 : Nat)) (bytesL bs) Own.no, AV.int IntKind.i64 (keptTx (bytesL bs) a).snd.fst]], live := [] } { boxes := [some [AV.str y.r.entity, AV.sl ((0 : Nat)) [] Own.nil, AV.sl ((0 : Nat)) [] Own.nil, AV.int IntKind.i64 (0 : Int), AV.int IntKind.i64 (0 : Int)], some [AV.int IntKind.i64 (0 : Int)], some [AV.int IntKind.i64 (0 : Int)], some (w28c24 bs y)], live := [] } ∧ (readRq bs a = r4 bs y.r y.a ∧ y.r.feats = [] ∧ y.r.labels = [] ∧ y.r.seed = (0 : Int) ∧ y.r.permille = (0 : Int)) ∧ True) ∧ (((keptTx (bytesL bs) a).snd.snd = (0 : Int) → False) → Option.all litOk (some (Value.iface ((88 : Nat)) (Value.agg #[Value.int IntKind.i64 (0 : Int), Value.int IntKind.i64 (keptTx (bytesL bs) a).snd.snd]))) = true ∧ (true = true → RetLax (AV.tup [AV.agg w28c3, AV.int IntKind.i64 (0 : Int), AV.int IntKind.i64 (keptTx (bytesL bs) a).snd.snd]) (r, [])) ∧ (true = false → RetLax (AV.tup [AV.agg w28c3, AV.int IntKind.i64 (0 : Int), AV.int IntKind.i64 (0 : Int)]) (r, []))) ∧ True) ∧ ∀ (x : R28), readRq bs a = r4 bs x.r x.a ∧ x.r.feats = [] ∧ x.r.labels = [] ∧ x.r.seed = (0 : Int) ∧ x.r.permille = (0 : Int) → True → (((BytL (bytesL bs) ∧ (0 : Int) ≤ (8 : Int) ∧ (8 : Int) ≤ (1000 : Int) ∧ (w28c12 x).all (AV.p1 (4 : Nat)) = true ∧ true = true ∧ true = true) ∧ ((keptUi (bytesL bs) x.a).snd.snd = (0 : Int) ∧ (keptUi (bytesL bs) x.a).fst ≤ (8 : Int) → ∃ (y : R28), ValsAre (w28c23 bs x) (w28c21 y) ∧ StIs { boxes := [some [AV.str x.r.entity, AV.sl ((1 : Nat)) [] (Own.tok (0 : Nat)), AV.sl ((0 : Nat)) [] Own.nil, AV.int IntKind.i64 (0 : Int), AV.int IntKind.i64 (0 : Int)], some [AV.int IntKind.i64 (0 : Int)], some [AV.int IntKind.i64 (0 : Int)], some [AV.sl ((1 : Nat)) (bytesL bs) Own.no, AV.int IntKind.i64 (keptUi (bytesL bs) x.a).snd.fst]], live := [((0 : Nat), (9 : Nat))] } { boxes := [some [AV.str y.r.entity, AV.sl ((1 : Nat)) [] (Own.tok ((0 : Nat))), AV.sl ((0 : Nat)) [] Own.nil, AV.int IntKind.i64 (0 : Int), AV.int IntKind.i64 (0 : Int)], some [AV.int IntKind.i64 (0 : Int)], some [AV.int IntKind.i64 (0 : Int)], some (w28c24 bs y)], live := [((0 : Nat), (9 : Nat))] } ∧ (readRq bs a = rFs bs y.n y.r y.a ∧ y.n ≤ (8 : Nat) ∧ y.r.feats = [] ∧ y.r.labels = [] ∧ y.r.seed = (0 : Int) ∧ y.r.permille = (0 : Int)) ∧ True) ∧ (((keptUi (bytesL bs) x.a).snd.snd = (0 : Int) → False) → Option.all litOk (some (Value.iface ((88 : Nat)) (Value.agg #[Value.int IntKind.i64 (0 : Int), Value.int IntKind.i64 (keptUi (bytesL bs) x.a).snd.snd]))) = true ∧ (true = true → RetLax (AV.tup [AV.agg w28c3, AV.int IntKind.i64 (0 : Int), AV.int IntKind.i64 (keptUi (bytesL bs) x.a).snd.snd]) (r, [])) ∧ (true = false → RetLax (AV.tup [AV.agg (w28c12 x), AV.int IntKind.i64 (0 : Int), AV.int IntKind.i64 (0 : Int)]) (r, []))) ∧ ((keptUi (bytesL bs) x.a).snd.snd = (0 : Int) ∧ (8 : Int) < (keptUi (bytesL bs) x.a).fst → true = true ∧ (w28c14 r) ∧ (true = false → RetLax (AV.tup [AV.agg (w28c12 x), AV.int IntKind.i64 (0 : Int), AV.int IntKind.i64 (0 : Int)]) (r, []))) ∧ True) ∧ ∀ (x : R28), readRq bs a = rFs bs x.n x.r x.a ∧ x.n ≤ (8 : Nat) ∧ x.r.feats = [] ∧ x.r.labels = [] ∧ x.r.seed = (0 : Int) ∧ x.r.permille = (0 : Int) → True → (∃ (y : R28), ValsAre (w28c22 x) (w28c18 y) ∧ StIs { boxes := [some [AV.str x.r.entity, AV.sl ((1 : Nat)) [] (Own.tok ((0 : Nat))), AV.sl ((0 : Nat)) [] Own.nil, AV.int IntKind.i64 (0 : Int), AV.int IntKind.i64 (0 : Int)], some [AV.int IntKind.i64 (0 : Int)], some [AV.int IntKind.i64 (0 : Int)], some (w28c26 bs x)], live := [((0 : Nat), (9 : Nat))] } (w28c6 y bs) ∧ (readRq bs a = rFs bs (y.n - y.r.feats.length) y.r y.a ∧ y.r.feats.length ≤ y.n ∧ y.n ≤ (8 : Nat) ∧ y.r.labels = [] ∧ y.r.seed = (0 : Int) ∧ y.r.permille = (0 : Int)) ∧ True) ∧ ∀ (x : R28), readRq bs a = rFs bs (x.n - x.r.feats.length) x.r x.a ∧ x.r.feats.length ≤ x.n ∧ x.n ≤ (8 : Nat) ∧ x.r.labels = [] ∧ x.r.seed = (0 : Int) ∧ x.r.permille = (0 : Int) → (decide ((↑x.r.feats.length : Int) < (↑x.n : Int)) = true → ((((((w28c16 bs x) ∧ ((keptTx (bytesL bs) x.a).snd.snd = (0 : Int) → (w28c1 x bs a) ∧ True) ∧ (w28c2 bs x r) ∧ True) ∧ True) ∧ True) ∧ (w28c10 bs x a r) ∧ True) ∧ ((w28c10 bs x a r) ∧ ((w28c16 bs x) ∧ ((keptTx (bytesL bs) x.a).snd.snd = (0 : Int) → (((w28c1 x bs a) ∧ True) ∧ ((w28c1 x bs a) ∧ True) ∧ True) ∧ (((w28c1 x bs a) ∧ True) ∧ True) ∧ True) ∧ (w28c2 bs x r) ∧ True) ∧ True) ∧ True) ∧ ∀ (x_1 : R28), readRq bs a = rFs bs (x_1.n - x_1.r.feats.length) x_1.r x_1.a ∧ (1 : Nat) ≤ x_1.r.feats.length ∧ x_1.r.feats.length ≤ x_1.n ∧ x_1.n ≤ (8 : Nat) ∧ x_1.r.labels = [] ∧ x_1.r.seed = (0 : Int) ∧ x_1.r.permille = (0 : Int) → ValsAre [AV.int IntKind.i64 (↑x.n : Int), AV.int IntKind.i64 (↑x.r.feats.length : Int)] [AV.int IntKind.i64 (↑x_1.n : Int), AV.int IntKind.i64 ((↑x_1.r.feats.length : Int) - (1 : Int))] → ∃ (y : R28), ValsAre [AV.ptr ((0 : Nat)) ((0 : Nat)), AV.ptr ((1 : Nat)) ((0 : Nat)), AV.ptr ((2 : Nat)) ((0 : Nat)), AV.ptr ((3 : Nat)) ((0 : Nat)), AV.int IntKind.i64 (↑x_1.n : Int), AV.int IntKind.i64 (IntKind.i64.wrap ((↑x_1.r.feats.length : Int) - (1 : Int) + (1 : Int)))] (w28c18 y) ∧ StIs { boxes := [some [AV.str x_1.r.entity, AV.sl ((1 : Nat)) (strsL x_1.r.feats) (Own.tok ((0 : Nat))), AV.sl ((0 : Nat)) [] Own.nil, AV.int IntKind.i64 (0 : Int), AV.int IntKind.i64 (0 : Int)], some [AV.int IntKind.i64 (0 : Int)], some [AV.int IntKind.i64 (0 : Int)], some [AV.sl ((1 : Nat)) (bytesL bs) Own.no, AV.int IntKind.i64 x_1.a]], live := [(x_1.r.feats.length, (9 : Nat))] } (w28c6 y bs) ∧ (readRq bs a = rFs bs (y.n - y.r.feats.length) y.r y.a ∧ y.r.feats.length ≤ y.n ∧ y.n ≤ (8 : Nat) ∧ y.r.labels = [] ∧ y.r.seed = (0 : Int) ∧ y.r.permille = (0 : Int)) ∧ y.n - y.r.feats.length < x.n - x.r.feats.length) ∧ (decide ((↑x.r.feats.length : Int) < (↑x.n : Int)) = false → ∃ (y : R28), ValsAre w28c8 w28c8 ∧ StIs { boxes := [some (w28c4 x), some [AV.int IntKind.i64 (0 : Int)], some [AV.int IntKind.i64 (0 : Int)], some (w28c26 bs x)], live := [(x.r.feats.length, (9 : Nat))] } (w28c6 y bs) ∧ (readRq bs a = r8 bs y.r y.a ∧ y.r.feats.length ≤ (8 : Nat) ∧ y.r.labels = [] ∧ y.r.seed = (0 : Int) ∧ y.r.permille = (0 : Int)) ∧ True)) ∧ ∀ (x : R28), readRq bs a = r8 bs x.r x.a ∧ x.r.feats.length ≤ (8 : Nat) ∧ x.r.labels = [] ∧ x.r.seed = (0 : Int) ∧ x.r.permille = (0 : Int) → True → (((BytL (bytesL bs) ∧ (0 : Int) ≤ (256 : Int) ∧ (256 : Int) ≤ (1000 : Int) ∧ (w28c4 x).all (AV.p1 (4 : Nat)) = true ∧ true = true ∧ true = true) ∧ ((keptUi (bytesL bs) x.a).snd.snd = (0 : Int) ∧ (keptUi (bytesL bs) x.a).fst ≤ (256 : Int) → ∃ (y : R28), ValsAre (w28c23 bs x) (w28c21 y) ∧ StIs { boxes := [some [AV.str x.r.entity, AV.sl ((1 : Nat)) (strsL x.r.feats) (Own.tok ((0 : Nat))), AV.sl ((3 : Nat)) [] (Own.tok (1 : Nat)), AV.int IntKind.i64 (0 : Int), AV.int IntKind.i64 (0 : Int)], some [AV.int IntKind.i64 (0 : Int)], some [AV.int IntKind.i64 (0 : Int)], some [AV.sl ((1 : Nat)) (bytesL bs) Own.no, AV.int IntKind.i64 (keptUi (bytesL bs) x.a).snd.fst]], live := [(x.r.feats.length, (9 : Nat)), ((0 : Nat), (65 : Nat))] } { boxes := [some [AV.str y.r.entity, AV.sl ((1 : Nat)) (strsL y.r.feats) (Own.tok ((0 : Nat))), AV.sl ((3 : Nat)) [] (Own.tok ((1 : Nat))), AV.int IntKind.i64 (0 : Int), AV.int IntKind.i64 (0 : Int)], some [AV.int IntKind.i64 (0 : Int)], some [AV.int IntKind.i64 (0 : Int)], some (w28c24 bs y)], live := [(y.r.feats.length, (9 : Nat)), ((0 : Nat), (65 : Nat))] } ∧ (readRq bs a = rLs bs y.n y.r y.a ∧ y.n ≤ (256 : Nat) ∧ y.r.feats.length ≤ (8 : Nat) ∧ y.r.labels = [] ∧ y.r.seed = (0 : Int) ∧ y.r.permille = (0 : Int)) ∧ True) ∧ (((keptUi (bytesL bs) x.a).snd.snd = (0 : Int) → False) → Option.all litOk (some (Value.iface ((88 : Nat)) (Value.agg #[Value.int IntKind.i64 (0 : Int), Value.int IntKind.i64 (keptUi (bytesL bs) x.a).snd.snd]))) = true ∧ (true = true → RetLax (AV.tup [AV.agg w28c3, AV.int IntKind.i64 (0 : Int), AV.int IntKind.i64 (keptUi (bytesL bs) x.a).snd.snd]) (r, [])) ∧ (w28c15 x r)) ∧ ((keptUi (bytesL bs) x.a).snd.snd = (0 : Int) ∧ (256 : Int) < (keptUi (bytesL bs) x.a).fst → true = true ∧ (w28c14 r) ∧ (w28c15 x r)) ∧ True) ∧ ∀ (x : R28), readRq bs a = rLs bs x.n x.r x.a ∧ x.n ≤ (256 : Nat) ∧ x.r.feats.length ≤ (8 : Nat) ∧ x.r.labels = [] ∧ x.r.seed = (0 : Int) ∧ x.r.permille = (0 : Int) → True → (∃ (y : R28), ValsAre (w28c22 x) (w28c17 y) ∧ StIs { boxes := [some [AV.str x.r.entity, AV.sl ((1 : Nat)) (strsL x.r.feats) (Own.tok ((0 : Nat))), AV.sl ((3 : Nat)) [] (Own.tok ((1 : Nat))), AV.int IntKind.i64 (0 : Int), AV.int IntKind.i64 (0 : Int)], some [AV.int IntKind.i64 (0 : Int)], some [AV.int IntKind.i64 (0 : Int)], some (w28c26 bs x)], live := [(x.r.feats.length, (9 : Nat)), ((0 : Nat), (65 : Nat))] } (w28c7 y bs) ∧ (w28c25 bs a y) ∧ True) ∧ ∀ (x : R28), readRq bs a = rLs bs (x.n - x.r.labels.length) x.r x.a ∧ x.r.labels.length ≤ x.n ∧ x.n ≤ (256 : Nat) ∧ x.r.feats.length ≤ (8 : Nat) ∧ x.r.seed = (0 : Int) ∧ x.r.permille = (0 : Int) → (decide ((↑x.r.labels.length : Int) < (↑x.n : Int)) = true → (BytL (bytesL bs) ∧ (w28c5 x).all (AV.p1 (5 : Nat)) = true ∧ true = true ∧ true = true) ∧ ((keptTx (bytesL bs) x.a).snd.snd = (0 : Int) → (BytL (bytesL bs) ∧ (w28c5 x).all (AV.p1 (5 : Nat)) = true ∧ true = true ∧ true = true ∧ [AV.str (keptTx (bytesL bs) x.a).fst, AV.int IntKind.i64 (0 : Int), AV.int IntKind.i64 (0 : Int)].all (AV.p1 (5 : Nat)) = true) ∧ ((w28c9 bs x).snd.snd = (0 : Int) → (BytL (bytesL bs) ∧ (w28c5 x).all (AV.p1 (5 : Nat)) = true ∧ true = true ∧ true = true ∧ [AV.str (keptTx (bytesL bs) x.a).fst, AV.int IntKind.i64 (w28c9 bs x).fst, AV.int IntKind.i64 (0 : Int)].all (AV.p1 (5 : Nat)) = true) ∧ ((keptIn (bytesL bs) (w28c9 bs x).snd.fst).snd.snd = (0 : Int) → ((3 : Nat) = (3 : Nat) ∨ lbsL x.r.labels = []) ∧ ((lbsL x.r.labels).length + (1 : Nat)) * (33 : Nat) ≤ (70368744177664 : Nat) ∧ x.r.labels.length = (lbsL x.r.labels).length ∧ ∃ (y : R28), ValsAre [AV.ptr ((0 : Nat)) ((0 : Nat)), AV.ptr ((1 : Nat)) ((0 : Nat)), AV.ptr ((2 : Nat)) ((0 : Nat)), AV.ptr ((3 : Nat)) ((0 : Nat)), AV.int IntKind.i64 (↑x.n : Int), AV.int IntKind.i64 (IntKind.i64.wrap ((↑x.r.labels.length : Int) + (1 : Int)))] (w28c17 y) ∧ StIs { boxes := [some [AV.str x.r.entity, AV.sl ((1 : Nat)) (strsL x.r.feats) (Own.tok ((0 : Nat))), AV.sl ((3 : Nat)) (lbsL x.r.labels ++ [AV.agg [AV.str (keptTx (bytesL bs) x.a).fst, AV.int IntKind.i64 (w28c9 bs x).fst, AV.int IntKind.i64 (keptIn (bytesL bs) (w28c9 bs x).snd.fst).fst]]) (Own.tok ((1 : Nat))), AV.int IntKind.i64 (0 : Int), AV.int IntKind.i64 (0 : Int)], some [AV.int IntKind.i64 (0 : Int)], some [AV.int IntKind.i64 (0 : Int)], some [AV.sl ((1 : Nat)) (bytesL bs) Own.no, AV.int IntKind.i64 (keptIn (bytesL bs) (w28c9 bs x).snd.fst).snd.fst]], live := [(x.r.feats.length, (9 : Nat)), ((lbsL x.r.labels).length + (1 : Nat), (65 : Nat))] } (w28c7 y bs) ∧ (w28c25 bs a y) ∧ y.n - y.r.labels.length < x.n - x.r.labels.length) ∧ (((keptIn (bytesL bs) (w28c9 bs x).snd.fst).snd.snd = (0 : Int) → False) → Option.all litOk (some (Value.iface ((88 : Nat)) (Value.agg #[Value.int IntKind.i64 (0 : Int), Value.int IntKind.i64 (keptIn (bytesL bs) (w28c9 bs x).snd.fst).snd.snd]))) = true ∧ (true = true → RetLax (AV.tup [AV.agg w28c3, AV.int IntKind.i64 (0 : Int), AV.int IntKind.i64 (keptIn (bytesL bs) (w28c9 bs x).snd.fst).snd.snd]) (r, [])) ∧ (w28c11 x r)) ∧ True) ∧ (((w28c9 bs x).snd.snd = (0 : Int) → False) → Option.all litOk (some (Value.iface ((88 : Nat)) (Value.agg #[Value.int IntKind.i64 (0 : Int), Value.int IntKind.i64 (w28c9 bs x).snd.snd]))) = true ∧ (true = true → RetLax (AV.tup [AV.agg w28c3, AV.int IntKind.i64 (0 : Int), AV.int IntKind.i64 (w28c9 bs x).snd.snd]) (r, [])) ∧ (w28c11 x r)) ∧ True) ∧ (((keptTx (bytesL bs) x.a).snd.snd = (0 : Int) → False) → Option.all litOk (some (Value.iface ((88 : Nat)) (Value.agg #[Value.int IntKind.i64 (0 : Int), Value.int IntKind.i64 (keptTx (bytesL bs) x.a).snd.snd]))) = true ∧ (true = true → RetLax (AV.tup [AV.agg w28c3, AV.int IntKind.i64 (0 : Int), AV.int IntKind.i64 (keptTx (bytesL bs) x.a).snd.snd]) (r, [])) ∧ (w28c11 x r)) ∧ True) ∧ (decide ((↑x.r.labels.length : Int) < (↑x.n : Int)) = false → ∃ (y : R28), ValsAre w28c8 w28c8 ∧ StIs { boxes := [some (w28c5 x), some [AV.int IntKind.i64 (0 : Int)], some [AV.int IntKind.i64 (0 : Int)], some (w28c26 bs x)], live := [(x.r.feats.length, (9 : Nat)), (x.r.labels.length, (65 : Nat))] } (w28c7 y bs) ∧ (readRq bs a = r15 bs y.r y.a ∧ y.r.seed = (0 : Int) ∧ y.r.permille = (0 : Int)) ∧ True)) ∧ ∀ (x : R28), readRq bs a = r15 bs x.r x.a ∧ x.r.seed = (0 : Int) ∧ x.r.permille = (0 : Int) → True → (BytL (bytesL bs) ∧ (w28c5 x).all (AV.p1 (4 : Nat)) = true ∧ true = true ∧ true = true) ∧ ((keptIn (bytesL bs) x.a).snd.snd = (0 : Int) → (BytL (bytesL bs) ∧ (w28c20 x bs).all (AV.p1 (4 : Nat)) = true ∧ true = true ∧ true = true) ∧ ((w28c13 bs x).snd.snd = (0 : Int) → ∃ (b : Bool), CallIs (tbl [((46 : Nat), s46)] ((46 : Nat)) [AV.agg [AV.str x.r.entity, AV.sl ((1 : Nat)) (strsL x.r.feats) Own.no, AV.sl ((3 : Nat)) (lbsL x.r.labels) Own.no, AV.int IntKind.i64 (keptIn (bytesL bs) x.a).fst, AV.int IntKind.i64 (w28c13 bs x).fst]]) (AV.bool b) [] ∧ (b = true → true = true ∧ (false = true → RetLax (AV.tup [AV.agg w28c3, AV.int IntKind.i64 (0 : Int), AV.int IntKind.i64 (0 : Int)]) (r, [])) ∧ (false = false → RetLax (AV.tup [AV.agg (w28c19 x bs), AV.int IntKind.i64 (w28c13 bs x).snd.fst, AV.int IntKind.i64 (0 : Int)]) (r, []))) ∧ (b = false → true = true ∧ (w28c14 r) ∧ (true = false → RetLax (AV.tup [AV.agg (w28c19 x bs), AV.int IntKind.i64 (0 : Int), AV.int IntKind.i64 (0 : Int)]) (r, [])))) ∧ (((w28c13 bs x).snd.snd = (0 : Int) → False) → Option.all litOk (some (Value.iface ((88 : Nat)) (Value.agg #[Value.int IntKind.i64 (0 : Int), Value.int IntKind.i64 (w28c13 bs x).snd.snd]))) = true ∧ (true = true → RetLax (AV.tup [AV.agg w28c3, AV.int IntKind.i64 (0 : Int), AV.int IntKind.i64 (w28c13 bs x).snd.snd]) (r, [])) ∧ (true = false → RetLax (AV.tup [AV.agg (w28c20 x bs), AV.int IntKind.i64 (0 : Int), AV.int IntKind.i64 (0 : Int)]) (r, []))) ∧ True) ∧ (((keptIn (bytesL bs) x.a).snd.snd = (0 : Int) → False) → Option.all litOk (some (Value.iface ((88 : Nat)) (Value.agg #[Value.int IntKind.i64 (0 : Int), Value.int IntKind.i64 (keptIn (bytesL bs) x.a).snd.snd]))) = true ∧ (true = true → RetLax (AV.tup [AV.agg w28c3, AV.int IntKind.i64 (0 : Int), AV.int IntKind.i64 (keptIn (bytesL bs) x.a).snd.snd]) (r, [])) ∧ (w28c11 x r)) ∧ True) := by kernel_rfl
end Go.Abs
namespace Go.Abs
open Go.Proofs
abbrev w11c1 : List AV := [AV.str [], AV.sl 0 [] Own.nil, AV.sl 0 [] Own.nil, AV.int IntKind.i64 0, AV.int IntKind.i64 0]
abbrev w11c2 : List AV := [AV.ptr 0 0, AV.ptr 1 0, AV.ptr 2 0, AV.ptr 4 0]
abbrev w11c3 (x : P2) : List AV := [AV.str x.r.entity, AV.sl 1 (strsL x.r.feats) (Own.tok 0), AV.sl 0 [] Own.nil, AV.int IntKind.i64 x.r.seed, AV.int IntKind.i64 x.r.permille]
abbrev w11c4 (x : P2) := List.drop 1 (List.take (toksL x.ts).length (toksL x.ts))
abbrev w11c5 (y : P2) (e : Int) : St := { boxes := [some [AV.str y.r.entity, AV.sl 1 (strsL y.r.feats) (Own.tok 0), AV.sl 0 [] Own.nil, I6 y.r.seed, I6 y.r.permille], some [I6 0], some [I6 e], some [AV.sl 3 (toksL y.ts) Own.no], some [AV.ptr 3 0]], live := [(y.r.feats.length, 9)] }
abbrev w11c6 (y : P2) (e : Int) : St := { boxes := [some [AV.str y.r.entity, AV.sl 1 (strsL y.r.feats) (Own.tok 0), AV.sl 3 (lbsL y.r.labels) (Own.tok 1), I6 y.r.seed, I6 y.r.permille], some [I6 0], some [I6 e], some [AV.sl 3 (toksL y.ts) Own.no], some [AV.ptr 3 0]], live := [(y.r.feats.length, 9), (y.r.labels.length, 65)] }
abbrev w11c7 (x : P2) : List AV := [AV.str x.r.entity, AV.sl 1 (strsL x.r.feats) (Own.tok 0), AV.sl 3 (lbsL x.r.labels) (Own.tok 1), AV.int IntKind.i64 x.r.seed, AV.int IntKind.i64 x.r.permille]
abbrev w11c8 (x : P2) := List.drop (nat_lit 1) (List.take (toksL x.ts).length (toksL x.ts))
abbrev w11c9 (x : P2) : List AV := [AV.str x.r.entity, AV.sl (nat_lit 1) (strsL x.r.feats) (Own.tok (nat_lit 0)), AV.sl (nat_lit 3) (lbsL x.r.labels) (Own.tok (nat_lit 1)), AV.int IntKind.i64 x.r.seed, AV.int IntKind.i64 x.r.permille]
abbrev w11c23 (x : P2) := hdT (List.drop 1 (toksL x.ts))
abbrev w11c14 (x : P2) (e : Int) (r : AV) : Prop := true = false → RetLax (AV.tup [AV.agg (w11c3 x), AV.int IntKind.i64 0, AV.int IntKind.i64 e]) (r, [])
abbrev w11c10 (x : P2) (r : AV) (e : Int) : Prop := ((w11c23 x).k = (2 : Int) → False) → Option.all litOk (some (Value.iface 88 (Value.agg #[Value.int IntKind.i64 (w11c23 x).a, Value.int IntKind.i64 90]))) = true ∧ (true = true → RetLax (AV.tup [AV.agg w11c1, AV.int IntKind.i64 (w11c23 x).a, AV.int IntKind.i64 90]) (r, [])) ∧ (w11c14 x e r)
abbrev w11c11 (x : P2) (e : Int) : St := { boxes := [some (w11c7 x), some [AV.int IntKind.i64 0], some [AV.int IntKind.i64 e], some [AV.sl 3 (toksL x.ts) Own.no], some [AV.ptr 3 0]], live := [(x.r.feats.length, 9), (x.r.labels.length, 65)] }
abbrev w11c12 (x : P2) := some (Value.iface 88 (Value.agg #[Value.int IntKind.i64 (hdT (toksL x.ts)).a, Value.int IntKind.i64 90]))
abbrev w11c13 (x : P2) (r : AV) : Prop := true = true → RetLax (AV.tup [AV.agg w11c1, AV.int IntKind.i64 (hdT (toksL x.ts)).a, AV.int IntKind.i64 90]) (r, [])
abbrev w11c15 (x : P2) (e : Int) (r : AV) : Prop := true = false → RetLax (AV.tup [AV.agg (w11c7 x), AV.int IntKind.i64 0, AV.int IntKind.i64 e]) (r, [])
abbrev w11c16 : List AV := [AV.ptr 3 0, AV.fn 42 [AV.ptr 0 0, AV.ptr 4 0]]
abbrev w11c17 (y : P2) (e : Int) : List (Option (List AV)) := [some [AV.str y.r.entity, AV.sl (nat_lit 1) (strsL y.r.feats) (Own.tok (nat_lit 0)), AV.sl (nat_lit 3) (lbsL y.r.labels) (Own.tok (nat_lit 1)), I6 y.r.seed, I6 y.r.permille], some [I6 0], some [I6 e], some [AV.sl (nat_lit 3) (toksL y.ts) Own.no], some [AV.ptr (nat_lit 3) (nat_lit 0)]]
abbrev w11c18 (x : P2) : Prop := (0 : Int) ≤ (0 : Int) ∧ (0 : Int) < (↑(toksL x.ts).length : Int)
abbrev w11c19 (x : P2) : List AV := [AV.str x.r.entity, AV.sl 0 [] Own.nil, AV.sl 0 [] Own.nil, AV.int IntKind.i64 0, AV.int IntKind.i64 0]
abbrev w11c20 : List AV := [AV.str [], AV.sl (nat_lit 0) [] Own.nil, AV.sl (nat_lit 0) [] Own.nil, AV.int IntKind.i64 0, AV.int IntKind.i64 0]
abbrev w11c21 (x : P2) (e : Int) : Prop := TokIn (toksL x.ts) ∧ ((w11c3 x).all (AV.p1 5) = true ∧ true = true ∧ [AV.int IntKind.i64 e].all (AV.p1 5) = true) ∧ (w11c3 x).all (AV.p1 6) = true ∧ true = true ∧ [AV.int IntKind.i64 e].all (AV.p1 6) = true
abbrev w11c22 (x : P2) (e : Int) : St := { boxes := [some (w11c3 x), some [AV.int IntKind.i64 0], some [AV.int IntKind.i64 e], some [AV.sl 3 (toksL x.ts) Own.no], some [AV.ptr 3 0]], live := [(x.r.feats.length, 9)] }
abbrev w11c24 (x : P2) (e : Int) : Prop := TokIn (List.drop 1 (toksL x.ts)) ∧ IntIn (List.drop 1 (toksL x.ts)) ∧ (w11c3 x).all (AV.p1 5) = true ∧ true = true ∧ [AV.int IntKind.i64 e].all (AV.p1 5) = true
abbrev w11c25 (x : P2) (e : Int) (r : AV) : Prop := true = false → RetLax (AV.tup [AV.agg (w11c9 x), AV.int IntKind.i64 0, AV.int IntKind.i64 e]) (r, [])
abbrev w11c26 (ts : List Tk) := hdT (List.drop 1 (toksL ts))
abbrev w11c27 (x : P2) : Prop := (1 : Nat) ≤ (toksL x.ts).length ∧ (toksL x.ts).length ≤ (toksL x.ts).length
abbrev w11c28 (e : Int) := AV.tup [AV.agg w11c1, AV.int IntKind.i64 0, AV.int IntKind.i64 e]
abbrev w11c29 : List AV := [AV.ptr 3 0, AV.fn 44 [AV.ptr 4 0, AV.ptr 0 0]]
abbrev w11c30 : List AV := [AV.ptr (nat_lit 3) (nat_lit 0), AV.fn (nat_lit 44) [AV.ptr (nat_lit 4) (nat_lit 0), AV.ptr (nat_lit 0) (nat_lit 0)]]
abbrev w11c31 (x : P2) := some (Value.iface 88 (Value.agg #[Value.int IntKind.i64 (hdT (w11c4 x)).a, Value.int IntKind.i64 90]))
theorem w11 (m : Int) (s : Spec) (bs : List UInt8) (ts : List Tk) (pb : List Pb) (e : Int) (r : AV) : (tlaxW PQ idMk (GQ m) (XP ts pb e) (tbl [(36, s), (46, s46)]) (itbl []) fsN (JP m idMk s ts pb e) (gP ts e) 11 [bytesA bs] (r, [])) =
(CallIs (tbl [(36, s), (46, s46)] 36 [AV.sl 1 (bytesL bs) Own.no]) (AV.tup [AV.sl 3 (toksL ts) Own.no, AV.sl 2 (pbsL pb) Own.no, I6 e]) [] ∧ ((e != (0 : Int)) = true → RetLax (w11c28 e) (r, [])) ∧ ((e != (0 : Int)) = false → (decide ((↑(pbsL pb).length : Int) > (0 : Int)) = true → ((0 : Int) ≤ (0 : Int) ∧ (0 : Int) < (↑(pbsL pb).length : Int)) ∧ ∃ (n : Int), takeAt PQ 3 (pbsL pb) 0 0 = some (I6 n) ∧ ((0 : Int) ≤ (0 : Int) ∧ (0 : Int) < (↑(pbsL pb).length : Int)) ∧ ∃ (n_1 : Int), takeAt PQ 28 (pbsL pb) 0 1 = some (I6 n_1) ∧ RetLax (AV.tup [AV.agg w11c1, I6 n, I6 n_1]) (r, [])) ∧ (decide ((↑(pbsL pb).length : Int) > (0 : Int)) = false → (((↑(toksL ts).length : Int) == (0 : Int)) = true → RetLax (AV.tup [AV.agg w11c1, I6 0, I6 90]) (r, [])) ∧ (((↑(toksL ts).length : Int) == (0 : Int)) = false → (TokIn (toksL ts) ∧ (true = true ∧ true = true ∧ [I6 e].all (AV.p1 5) = true) ∧ true = true ∧ true = true ∧ [I6 e].all (AV.p1 6) = true) ∧ ((hdT (toksL ts)).k = (1 : Int) ∧ ((hdT (toksL ts)).s == [111, 102]) = true → ((TokIn (List.drop 1 (toksL ts)) ∧ true = true ∧ true = true ∧ [I6 e].all (AV.p1 5) = true) ∧ ((w11c26 ts).k = (1 : Int) ∧ accS 40 [] (w11c26 ts).s = true → ∃ (y : P2), ValsAre w11c2 w11c2 ∧ StIs { boxes := [some [AV.str (w11c26 ts).s, AV.sl 0 [] Own.nil, AV.sl 0 [] Own.nil, I6 0, I6 0], some [I6 0], some [I6 e], some [AV.sl 3 (if (1 : Int) = (6 : Int) then List.drop 1 (toksL ts) else List.drop 1 (List.drop 1 (toksL ts))) Own.no], some [AV.ptr 3 0]], live := [] } { boxes := [some [AV.str y.r.entity, AV.sl 0 [] Own.nil, AV.sl 0 [] Own.nil, I6 0, I6 0], some [I6 0], some [I6 e], some [AV.sl 3 (toksL y.ts) Own.no], some [AV.ptr 3 0]], live := [] } ∧ (GoodT y.ts ∧ parseTk ts = k12 { entity := y.r.entity, feats := [], labels := [], seed := (0 : Int), permille := (0 : Int) } y.ts ∧ y.ts.length ≤ ts.length) ∧ True) ∧ (((w11c26 ts).k = (1 : Int) ∧ accS 40 [] (w11c26 ts).s = true → False) → Option.all litOk (some (Value.iface 88 (Value.agg #[Value.int IntKind.i64 (w11c26 ts).a, Value.int IntKind.i64 90]))) = true ∧ (true = true → RetLax (AV.tup [AV.agg w11c1, I6 (w11c26 ts).a, I6 90]) (r, [])) ∧ (true = false → RetLax (w11c28 e) (r, []))) ∧ True) ∧ ∀ (x : P2), GoodT x.ts ∧ parseTk ts = k12 { entity := x.r.entity, feats := [], labels := [], seed := (0 : Int), permille := (0 : Int) } x.ts ∧ x.ts.length ≤ ts.length → True → ((TokIn (toksL x.ts) ∧ ((w11c19 x).all (AV.p1 5) = true ∧ true = true ∧ [I6 e].all (AV.p1 5) = true) ∧ (w11c19 x).all (AV.p1 6) = true ∧ true = true ∧ [I6 e].all (AV.p1 6) = true) ∧ ((hdT (toksL x.ts)).k = (1 : Int) ∧ ((hdT (toksL x.ts)).s == [116, 97, 107, 101]) = true → ∃ (y : P2), ValsAre w11c2 w11c2 ∧ StIs { boxes := [some [AV.str x.r.entity, AV.sl 1 [] (Own.tok 0), AV.sl 0 [] Own.nil, I6 0, I6 0], some [I6 0], some [I6 e], some [AV.sl 3 (List.drop 1 (toksL x.ts)) Own.no], some [AV.ptr 3 0]], live := [(0, 9)] } (w11c5 y e) ∧ (GoodT y.ts ∧ parseTk ts = k13 y.r y.ts ∧ y.r.feats = [] ∧ y.r.labels = [] ∧ y.ts.length ≤ ts.length) ∧ True) ∧ (((hdT (toksL x.ts)).k = (1 : Int) ∧ ((hdT (toksL x.ts)).s == [116, 97, 107, 101]) = true → False) → Option.all litOk (w11c12 x) = true ∧ (w11c13 x r) ∧ (true = false → RetLax (AV.tup [AV.agg (w11c19 x), I6 0, I6 e]) (r, []))) ∧ True) ∧ ∀ (x : P2), GoodT x.ts ∧ parseTk ts = k13 x.r x.ts ∧ x.r.feats = [] ∧ x.r.labels = [] ∧ x.ts.length ≤ ts.length → True → ((TokIn (toksL x.ts) ∧ (∃ (l : List (List UInt8)), strsL x.r.feats = strsL l) ∧ x.r.feats.length = (strsL x.r.feats).length ∧ (strsL x.r.feats).length ≤ (1000000 : Nat) ∧ true = true ∧ [I6 e].all (AV.p1 5) = true) ∧ ((hdT (toksL x.ts)).k = (1 : Int) ∧ nameR (hdT (toksL x.ts)).s = true → (∃ (y : P2), ValsAre w11c16 w11c16 ∧ StIs { boxes := [some [AV.str x.r.entity, AV.sl 1 (strsL x.r.feats ++ [AV.str (hdT (toksL x.ts)).s]) (Own.tok 0), AV.sl 0 [] Own.nil, I6 x.r.seed, I6 x.r.permille], some [I6 0], some [I6 e], some [AV.sl 3 (List.drop 1 (toksL x.ts)) Own.no], some [AV.ptr 3 0]], live := [((strsL x.r.feats).length + (1 : Nat), 9)] } (w11c5 y e) ∧ (GoodT y.ts ∧ parseTk ts = kMf y.r y.ts y.r.feats ∧ y.r.labels = [] ∧ y.r.feats.length + y.ts.length ≤ ts.length) ∧ True) ∧ ∀ (x : P2), GoodT x.ts ∧ parseTk ts = kMf x.r x.ts x.r.feats ∧ x.r.labels = [] ∧ x.r.feats.length + x.ts.length ≤ ts.length → (w11c18 x) ∧ ∃ (n : Int), takeAt PQ 3 (toksL x.ts) 0 0 = some (I6 n) ∧ ((n == (5 : Int)) = true → (w11c18 x) ∧ ∃ (s : List UInt8), takeAt PQ 9 (toksL x.ts) 0 1 = some (AV.str s) ∧ ((s == [44]) = true → (0 : Int) ≤ (1 : Int) ∧ (w11c27 x) ∧ ((3 : Nat) = (3 : Nat) ∨ toksL x.ts = []) ∧ (TokIn (w11c4 x) ∧ (∃ (l : List (List UInt8)), strsL x.r.feats = strsL l) ∧ x.r.feats.length = (strsL x.r.feats).length ∧ (strsL x.r.feats).length ≤ (1000000 : Nat) ∧ true = true ∧ [I6 e].all (AV.p1 5) = true) ∧ ((hdT (w11c4 x)).k = (1 : Int) ∧ nameR (hdT (w11c4 x)).s = true → ∃ (y : P2), ValsAre w11c16 w11c16 ∧ StIs { boxes := [some [AV.str x.r.entity, AV.sl 1 (strsL x.r.feats ++ [AV.str (hdT (w11c4 x)).s]) (Own.tok 0), AV.sl 0 [] Own.nil, I6 x.r.seed, I6 x.r.permille], some [I6 0], some [I6 e], some [AV.sl 3 (List.drop 1 (w11c4 x)) Own.no], some [AV.ptr 3 0]], live := [((strsL x.r.feats).length + (1 : Nat), 9)] } (w11c5 y e) ∧ (GoodT y.ts ∧ parseTk ts = kMf y.r y.ts y.r.feats ∧ y.r.labels = [] ∧ y.r.feats.length + y.ts.length ≤ ts.length) ∧ y.ts.length < x.ts.length) ∧ (((hdT (w11c4 x)).k = (1 : Int) ∧ nameR (hdT (w11c4 x)).s = true → False) → Option.all litOk (w11c31 x) = true ∧ (true = true → RetLax (AV.tup [AV.agg w11c1, I6 (hdT (w11c4 x)).a, I6 90]) (r, [])) ∧ (w11c14 x e r)) ∧ True) ∧ ((s == [44]) = false → ∃ (y : P2), ValsAre w11c2 w11c2 ∧ StIs (w11c22 x e) (w11c5 y e) ∧ (GoodT y.ts ∧ parseTk ts = k14 y.r y.ts ∧ y.r.labels = [] ∧ y.ts.length ≤ ts.length) ∧ True)) ∧ ((n == (5 : Int)) = false → ∃ (y : P2), ValsAre w11c2 w11c2 ∧ StIs (w11c22 x e) (w11c5 y e) ∧ (GoodT y.ts ∧ parseTk ts = k14 y.r y.ts ∧ y.r.labels = [] ∧ y.ts.length ≤ ts.length) ∧ True)) ∧ (((hdT (toksL x.ts)).k = (1 : Int) ∧ nameR (hdT (toksL x.ts)).s = true → False) → Option.all litOk (w11c12 x) = true ∧ (w11c13 x r) ∧ (w11c14 x e r)) ∧ True) ∧ ∀ (x : P2), GoodT x.ts ∧ parseTk ts = k14 x.r x.ts ∧ x.r.labels = [] ∧ x.ts.length ≤ ts.length → True → (w11c21 x e) ∧ ((hdT (toksL x.ts)).k = (1 : Int) ∧ ((hdT (toksL x.ts)).s == [115, 101, 101, 100]) = true → ((w11c24 x e) ∧ ((w11c23 x).k = (2 : Int) → ∃ (y : P2), ValsAre w11c2 w11c2 ∧ StIs { boxes := [some [AV.str x.r.entity, AV.sl 1 (strsL x.r.feats) (Own.tok 0), AV.sl 0 [] Own.nil, I6 (numV (w11c23 x).s), I6 x.r.permille], some [I6 0], some [I6 e], some [AV.sl 3 (List.drop 1 (List.drop 1 (toksL x.ts))) Own.no], some [AV.ptr 3 0]], live := [(x.r.feats.length, 9)] } (w11c5 y e) ∧ (GoodT y.ts ∧ parseTk ts = k16 y.r y.ts ∧ y.r.labels = [] ∧ y.ts.length ≤ ts.length) ∧ True) ∧ (w11c10 x r e) ∧ True) ∧ ∀ (x : P2), GoodT x.ts ∧ parseTk ts = k16 x.r x.ts ∧ x.r.labels = [] ∧ x.ts.length ≤ ts.length → True → (w11c21 x e) ∧ ((hdT (toksL x.ts)).k = (1 : Int) ∧ ((hdT (toksL x.ts)).s == [107, 101, 101, 112]) = true → ((w11c24 x e) ∧ ((w11c23 x).k = (2 : Int) → ∃ (y : P2), ValsAre w11c2 w11c2 ∧ StIs { boxes := [some [AV.str x.r.entity, AV.sl 1 (strsL x.r.feats) (Own.tok 0), AV.sl 3 [] (Own.tok 1), I6 x.r.seed, I6 (numV (w11c23 x).s)], some [I6 0], some [I6 e], some [AV.sl 3 (List.drop 1 (List.drop 1 (toksL x.ts))) Own.no], some [AV.ptr 3 0]], live := [(x.r.feats.length, 9), (0, 65)] } (w11c6 y e) ∧ (GoodT y.ts ∧ parseTk ts = k18 y.r y.ts ∧ y.r.labels = [] ∧ y.ts.length ≤ ts.length) ∧ True) ∧ (w11c10 x r e) ∧ True) ∧ ∀ (x : P2), GoodT x.ts ∧ parseTk ts = k18 x.r x.ts ∧ x.r.labels = [] ∧ x.ts.length ≤ ts.length → True → ((w11c18 x) ∧ ∃ (n : Int), takeAt PQ 3 (toksL x.ts) 0 0 = some (I6 n) ∧ ((n == (1 : Int)) = true → (w11c18 x) ∧ ∃ (s : List UInt8), takeAt PQ 9 (toksL x.ts) 0 1 = some (AV.str s) ∧ ((s == [97, 116]) = true → (0 : Int) ≤ (1 : Int) ∧ (w11c27 x) ∧ ((3 : Nat) = (3 : Nat) ∨ toksL x.ts = []) ∧ (TokIn (w11c4 x) ∧ ((hdT (w11c4 x)).k = (4 : Int) → TokIn (List.drop 1 (w11c4 x)) ∧ IntIn (List.drop 1 (w11c4 x))) ∧ ((hdT (w11c4 x)).k = (4 : Int) → (hdT (List.drop (1 : Nat) (w11c4 x))).k = (2 : Int) → TokIn (List.drop 2 (w11c4 x)) ∧ IntIn (List.drop 2 (w11c4 x))) ∧ (∃ (l : List Lb), lbsL x.r.labels = lbsL l) ∧ x.r.labels.length = (lbsL x.r.labels).length ∧ (lbsL x.r.labels).length ≤ (1000000 : Nat) ∧ (true = true ∧ [I6 e].all (AV.p1 5) = true) ∧ true = true ∧ [I6 e].all (AV.p1 6) = true) ∧ ((hdT (w11c4 x)).k = (4 : Int) ∧ (hdT (List.drop (1 : Nat) (w11c4 x))).k = (2 : Int) ∧ (hdT (List.drop (2 : Nat) (w11c4 x))).k = (2 : Int) → (∃ (y : P2), ValsAre w11c29 w11c29 ∧ StIs { boxes := [some [AV.str x.r.entity, AV.sl 1 (strsL x.r.feats) (Own.tok 0), AV.sl 3 (lbsL x.r.labels ++ [AV.agg [AV.str (hdT (w11c4 x)).s, I6 (numV (hdT (List.drop (1 : Nat) (w11c4 x))).s), I6 (numV (hdT (List.drop (2 : Nat) (w11c4 x))).s)]]) (Own.tok 1), I6 x.r.seed, I6 x.r.permille], some [I6 0], some [I6 e], some [AV.sl 3 (List.drop 3 (w11c4 x)) Own.no], some [AV.ptr 3 0]], live := [(x.r.feats.length, 9), ((lbsL x.r.labels).length + (1 : Nat), 65)] } (w11c6 y e) ∧ (GoodT y.ts ∧ parseTk ts = kMl y.r y.ts y.r.labels ∧ y.r.labels.length + y.ts.length ≤ ts.length) ∧ True) ∧ ∀ (x : P2), GoodT x.ts ∧ parseTk ts = kMl x.r x.ts x.r.labels ∧ x.r.labels.length + x.ts.length ≤ ts.length → (w11c18 x) ∧ ∃ (n : Int), takeAt PQ 3 (toksL x.ts) 0 0 = some (I6 n) ∧ ((n == (5 : Int)) = true → (w11c18 x) ∧ ∃ (s : List UInt8), takeAt PQ 9 (toksL x.ts) 0 1 = some (AV.str s) ∧ ((s == [44]) = true → (0 : Int) ≤ (1 : Int) ∧ (w11c27 x) ∧ ((3 : Nat) = (3 : Nat) ∨ toksL x.ts = []) ∧ (TokIn (w11c4 x) ∧ ((hdT (w11c8 x)).k = (4 : Int) → TokIn (List.drop (nat_lit 1) (w11c8 x)) ∧ IntIn (List.drop (nat_lit 1) (w11c8 x))) ∧ ((hdT (w11c8 x)).k = (4 : Int) → (hdT (List.drop (1 : Nat) (w11c8 x))).k = (2 : Int) → TokIn (List.drop (nat_lit 2) (w11c8 x)) ∧ IntIn (List.drop (nat_lit 2) (w11c8 x))) ∧ (∃ (l : List Lb), lbsL x.r.labels = lbsL l) ∧ x.r.labels.length = (lbsL x.r.labels).length ∧ (lbsL x.r.labels).length ≤ nat_lit 1000000 ∧ (true = true ∧ [I6 e].all (AV.p1 5) = true) ∧ true = true ∧ [I6 e].all (AV.p1 6) = true) ∧ ((hdT (w11c8 x)).k = (4 : Int) ∧ (hdT (List.drop (1 : Nat) (w11c8 x))).k = (2 : Int) ∧ (hdT (List.drop (2 : Nat) (w11c8 x))).k = (2 : Int) → ∃ (y : P2), ValsAre w11c30 w11c30 ∧ StIs { boxes := [some [AV.str x.r.entity, AV.sl (nat_lit 1) (strsL x.r.feats) (Own.tok (nat_lit 0)), AV.sl (nat_lit 3) (lbsL x.r.labels ++ [AV.agg [AV.str (hdT (w11c8 x)).s, I6 (numV (hdT (List.drop (1 : Nat) (w11c8 x))).s), I6 (numV (hdT (List.drop (2 : Nat) (w11c8 x))).s)]]) (Own.tok (nat_lit 1)), I6 x.r.seed, I6 x.r.permille], some [I6 0], some [I6 e], some [AV.sl (nat_lit 3) (List.drop (nat_lit 3) (w11c8 x)) Own.no], some [AV.ptr (nat_lit 3) (nat_lit 0)]], live := [(x.r.feats.length, nat_lit 9), ((lbsL x.r.labels).length + nat_lit 1, nat_lit 65)] } { boxes := (w11c17 y e), live := [(y.r.feats.length, nat_lit 9), (y.r.labels.length, nat_lit 65)] } ∧ (GoodT y.ts ∧ parseTk ts = kMl y.r y.ts y.r.labels ∧ y.r.labels.length + y.ts.length ≤ ts.length) ∧ y.ts.length < x.ts.length) ∧ (((hdT (w11c8 x)).k = (4 : Int) → False) → Option.all litOk (some (Value.iface (nat_lit 88) (Value.agg #[Value.int IntKind.i64 (hdT (w11c8 x)).a, Value.int IntKind.i64 90]))) = true ∧ (true = true → RetLax (AV.tup [AV.agg w11c20, I6 (hdT (w11c8 x)).a, I6 90]) (r, [])) ∧ (w11c25 x e r)) ∧ ((hdT (w11c8 x)).k = (4 : Int) ∧ (hdT (List.drop (1 : Nat) (w11c8 x))).k ≠ (2 : Int) → Option.all litOk (some (Value.iface (nat_lit 88) (Value.agg #[Value.int IntKind.i64 (hdT (List.drop (1 : Nat) (w11c8 x))).a, Value.int IntKind.i64 90]))) = true ∧ (true = true → RetLax (AV.tup [AV.agg w11c20, I6 (hdT (List.drop (1 : Nat) (w11c8 x))).a, I6 90]) (r, [])) ∧ (w11c25 x e r)) ∧ ((hdT (w11c8 x)).k = (4 : Int) ∧ (hdT (List.drop (1 : Nat) (w11c8 x))).k = (2 : Int) ∧ (hdT (List.drop (2 : Nat) (w11c8 x))).k ≠ (2 : Int) → Option.all litOk (some (Value.iface (nat_lit 88) (Value.agg #[Value.int IntKind.i64 (hdT (List.drop (2 : Nat) (w11c8 x))).a, Value.int IntKind.i64 90]))) = true ∧ (true = true → RetLax (AV.tup [AV.agg w11c20, I6 (hdT (List.drop (2 : Nat) (w11c8 x))).a, I6 90]) (r, [])) ∧ (w11c25 x e r)) ∧ True) ∧ ((s == [44]) = false → ∃ (y : P2), ValsAre w11c2 w11c2 ∧ StIs { boxes := [some (w11c9 x), some [I6 0], some [I6 e], some [AV.sl (nat_lit 3) (toksL x.ts) Own.no], some [AV.ptr (nat_lit 3) (nat_lit 0)]], live := [(x.r.feats.length, 9), (x.r.labels.length, nat_lit 65)] } { boxes := (w11c17 y e), live := [(y.r.feats.length, 9), (y.r.labels.length, nat_lit 65)] } ∧ (GoodT y.ts ∧ parseTk ts = k21 y.r y.ts) ∧ True)) ∧ ((n == (5 : Int)) = false → ∃ (y : P2), ValsAre w11c2 w11c2 ∧ StIs (w11c11 x e) (w11c6 y e) ∧ (GoodT y.ts ∧ parseTk ts = k21 y.r y.ts) ∧ True)) ∧ (((hdT (w11c4 x)).k = (4 : Int) → False) → Option.all litOk (w11c31 x) = true ∧ (true = true → RetLax (AV.tup [AV.agg w11c1, I6 (hdT (w11c4 x)).a, I6 90]) (r, [])) ∧ (w11c15 x e r)) ∧ ((hdT (w11c4 x)).k = (4 : Int) ∧ (hdT (List.drop (1 : Nat) (w11c4 x))).k ≠ (2 : Int) → Option.all litOk (some (Value.iface 88 (Value.agg #[Value.int IntKind.i64 (hdT (List.drop (1 : Nat) (w11c4 x))).a, Value.int IntKind.i64 90]))) = true ∧ (true = true → RetLax (AV.tup [AV.agg w11c1, I6 (hdT (List.drop (1 : Nat) (w11c4 x))).a, I6 90]) (r, [])) ∧ (w11c15 x e r)) ∧ ((hdT (w11c4 x)).k = (4 : Int) ∧ (hdT (List.drop (1 : Nat) (w11c4 x))).k = (2 : Int) ∧ (hdT (List.drop (2 : Nat) (w11c4 x))).k ≠ (2 : Int) → Option.all litOk (some (Value.iface 88 (Value.agg #[Value.int IntKind.i64 (hdT (List.drop (2 : Nat) (w11c4 x))).a, Value.int IntKind.i64 90]))) = true ∧ (true = true → RetLax (AV.tup [AV.agg w11c1, I6 (hdT (List.drop (2 : Nat) (w11c4 x))).a, I6 90]) (r, [])) ∧ (w11c15 x e r)) ∧ True) ∧ ((s == [97, 116]) = false → ∃ (y : P2), ValsAre w11c2 w11c2 ∧ StIs (w11c11 x e) (w11c6 y e) ∧ (GoodT y.ts ∧ parseTk ts = k21 y.r y.ts) ∧ True)) ∧ ((n == (1 : Int)) = false → ∃ (y : P2), ValsAre w11c2 w11c2 ∧ StIs (w11c11 x e) (w11c6 y e) ∧ (GoodT y.ts ∧ parseTk ts = k21 y.r y.ts) ∧ True)) ∧ ∀ (x : P2), GoodT x.ts ∧ parseTk ts = k21 x.r x.ts → True → (TokIn (toksL x.ts) ∧ (w11c7 x).all (AV.p1 5) = true ∧ true = true ∧ [I6 e].all (AV.p1 5) = true) ∧ ((hdT (toksL x.ts)).k = (6 : Int) ∧ accS 45 [] (hdT (toksL x.ts)).s = true → ∃ (b : Bool), CallIs (tbl [(36, s), (46, s46)] 46 [AV.agg [AV.str x.r.entity, AV.sl 1 (strsL x.r.feats) Own.no, AV.sl 3 (lbsL x.r.labels) Own.no, I6 x.r.seed, I6 x.r.permille]]) (AV.bool b) [] ∧ (b = true → true = true ∧ (false = true → RetLax (AV.tup [AV.agg w11c1, I6 0, I6 0]) (r, [])) ∧ (false = false → RetLax (AV.tup [AV.agg (w11c7 x), I6 0, I6 0]) (r, []))) ∧ (b = false → true = true ∧ (true = true → RetLax (AV.tup [AV.agg w11c1, I6 0, I6 240]) (r, [])) ∧ (w11c15 x e r))) ∧ (((hdT (toksL x.ts)).k = (6 : Int) ∧ accS 45 [] (hdT (toksL x.ts)).s = true → False) → Option.all litOk (w11c12 x) = true ∧ (w11c13 x r) ∧ (w11c15 x e r)) ∧ True) ∧ (((hdT (toksL x.ts)).k = (1 : Int) ∧ ((hdT (toksL x.ts)).s == [107, 101, 101, 112]) = true → False) → Option.all litOk (w11c12 x) = true ∧ (w11c13 x r) ∧ (w11c14 x e r)) ∧ True) ∧ (((hdT (toksL x.ts)).k = (1 : Int) ∧ ((hdT (toksL x.ts)).s == [115, 101, 101, 100]) = true → False) → Option.all litOk (w11c12 x) = true ∧ (w11c13 x r) ∧ (w11c14 x e r)) ∧ True) ∧ (((hdT (toksL ts)).k = (1 : Int) ∧ ((hdT (toksL ts)).s == [111, 102]) = true → False) → Option.all litOk (some (Value.iface 88 (Value.agg #[Value.int IntKind.i64 (hdT (toksL ts)).a, Value.int IntKind.i64 90]))) = true ∧ (true = true → RetLax (AV.tup [AV.agg w11c1, I6 (hdT (toksL ts)).a, I6 90]) (r, [])) ∧ (true = false → RetLax (w11c28 e) (r, []))) ∧ True)))) := by kernel_rfl
end Go.Abs
