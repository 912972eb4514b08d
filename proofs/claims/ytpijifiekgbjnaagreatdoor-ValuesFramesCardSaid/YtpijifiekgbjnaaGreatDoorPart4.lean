/- Own texts, part 4. -/
import Derived.Test.YtpijifiekgbjnaaGreatDoorPart3
import Derived.Test.YtpijifiekgbjnaaGreatDoorShelf
import Derived.Lib.AtoiErrMem
import Derived.Lib.AppendIntMem

namespace Go.Abs
open Go.Proofs Go.Wire
theorem sl_ok {l : List UInt8} : (1 = 1 ∨ bytesL l = []) := .inl rfl
theorem s56_at {bs : List UInt8} {n : Int} {o : Own} (h : strOk bs) (hn : u64Ok n) : s56 [.sl 1 (bytesL bs) o, .int .u64 n] = some (ownR (bs ++ uintL n.toNat)) := by
  simp only [s56, sBytesNum, onBytes, unBytes_mk, true_or, true_and, if_true, h, hn]
theorem s38_at {bs : List UInt8} {n : Int} {o : Own} (h : strOk bs) (hn : i64Ok n) : s38 [.sl 1 (bytesL bs) o, .int .i64 n] = some (ownR (bs ++ uintL (zig n))) := by
  simp only [s38, sBytesNum, onBytes, unBytes_mk, true_or, true_and, if_true, h, hn]
theorem s39_at {bs s : List UInt8} {o : Own} (h : strOk bs) (hn : strOk s) : s39 [.sl 1 (bytesL bs) o, .str s] = some (ownR (bs ++ textL s)) := by
  simp only [s39, onBytes, unBytes_mk, true_or, true_and, if_true, h, hn]
theorem s89_at {n : Int} (hn : u64Ok n) : s89 [.int .u64 n] = some (ownR (uintL n.toNat)) := by
  simp only [s89, if_true, hn]
theorem s68_at {n : Int} (hn : i64Ok n) : s68 [.int .i64 n] = some (ownR (uintL (zig n))) := by
  simp only [s68, if_true, hn]
theorem s69_at {s : List UInt8} (hn : strOk s) : s69 [.str s] = some (ownR (textL s)) := by
  simp only [s69, if_true, hn]
theorem zig_lt {n : Int} (h : i64Ok n) : zig n < 18446744073709551616 := by
  obtain ⟨h0, h1⟩ := h
  unfold zig; split <;> omega
theorem bv_neg (x : Nat) (hx : x < 18446744073709551616) : (BitVec.ofNat 64 x ^^^ BitVec.allOnes 64).toNat = 18446744073709551615 - x := by
  rw [BitVec.xor_allOnes, BitVec.toNat_not, BitVec.toNat_ofNat]
  omega
theorem zig_bits {n : Int} (h : i64Ok n) : IntKind.u64.wrap (↑(BitVec.ofInt IntKind.u64.bits (IntKind.u64.wrap (IntKind.u64.wrap n * (2 : Int) ^ min (Int.toNat (1 : Int)) IntKind.u64.bits)) ^^^
                          BitVec.ofInt IntKind.u64.bits (IntKind.u64.wrap (n.fdiv ((2 : Int) ^ min (Int.toNat (63 : Int)) IntKind.i64.bits)))).toNat : Int) = (zig n : Int) := by
  obtain ⟨h0, h1⟩ := h
  have e1 : IntKind.u64.bits = 64 := rfl
  have e2 : IntKind.i64.bits = 64 := rfl
  rw [e1, e2, show min (Int.toNat 1) 64 = 1 by decide, show min (Int.toNat 63) 64 = 63 by decide]
  rw [wrapu64, wrapu64, wrapu64, wrapu64, Int.pow_succ, Int.pow_zero, Int.one_mul]
  have e3 : (2 : Int) ^ 63 = 9223372036854775808 := by decide
  rw [e3, Int.fdiv_eq_ediv_of_nonneg _ (by omega)]
  by_cases hn : 0 ≤ n
  · have e4 : n / 9223372036854775808 % 18446744073709551616 = 0 := by omega
    have e5 : n % 18446744073709551616 * 2 % 18446744073709551616 = ((2 * n).toNat : Int) := by omega
    rw [e4, e5]
    have : BitVec.ofInt 64 (0 : Int) = 0#64 := by decide
    rw [this, BitVec.xor_zero, BitVec.ofInt_natCast, BitVec.toNat_ofNat]
    unfold zig; rw [if_pos hn]; omega
  · have e4 : n / 9223372036854775808 % 18446744073709551616 = 18446744073709551615 := by omega
    have e5 : n % 18446744073709551616 * 2 % 18446744073709551616 = ((2 * n + 18446744073709551616).toNat : Int) := by omega
    rw [e4, e5]
    have : BitVec.ofInt 64 (18446744073709551615 : Int) = BitVec.allOnes 64 := by decide
    rw [this, BitVec.ofInt_natCast, bv_neg _ (by omega)]
    unfold zig; rw [if_neg hn]; omega
theorem zig_ref1 {n : Int} (h : i64Ok n) (hn : 0 ≤ n) : IntKind.u64.wrap ((2 : Int) * IntKind.u64.wrap n) = (zig n : Int) := by
  obtain ⟨h0, h1⟩ := h
  rw [wrapu64, wrapu64]; unfold zig; rw [if_pos hn]; omega
theorem wrapi64 (n : Int) : IntKind.i64.wrap n = (n + 9223372036854775808) % 18446744073709551616 - 9223372036854775808 := by
  simp only [IntKind.wrap, IntKind.bits, IntKind.signed]
  simp
  split <;> omega
theorem zig_ref2 {n : Int} (h : i64Ok n) (hn : ¬ 0 ≤ n) : IntKind.u64.wrap (IntKind.u64.wrap ((2 : Int) * IntKind.u64.wrap (IntKind.i64.wrap ((0 : Int) - IntKind.i64.wrap (n + (1 : Int))))) + (1 : Int)) = (zig n : Int) := by
  obtain ⟨h0, h1⟩ := h
  rw [wrapu64, wrapu64, wrapu64, wrapi64, wrapi64]; unfold zig; rw [if_neg hn]; omega
theorem wrapu64_len {s : List UInt8} (h : strOk s) : IntKind.u64.wrap (s.length : Int) = (s.length : Int) := by
  have : s.length ≤ 1000000 := h
  rw [wrapu64]; omega
theorem u64Ok_nat {n : Nat} (h : n < 18446744073709551616) : u64Ok (n : Int) := ⟨by omega, by omega⟩
theorem p38 (m n : Int) (bs : List UInt8) (hs : strOk bs) (hn : i64Ok n) : PureOk PZ (GZ m) XN (tbl [(56, s56)]) (itbl []) nAn [] 38 [bytesA bs, .int .i64 n] (ownR (bs ++ uintL (zig n))) := by
  constructor
  generalize hr : bs ++ uintL (zig n) = r
  rw [w38, zig_bits hn, tbl_hit, s56_at hs (u64Ok_nat (zig_lt hn)), Int.toNat_natCast, hr]
  exact ⟨by omega, by omega, bytesL r, ⟨by simp [ownR]⟩, rfl, ⟨by simp []⟩⟩
theorem textlen {s : List UInt8} (h : strOk s) : (textL s).length ≤ 1000010 := by
  have h1 : s.length ≤ 1000000 := h
  have := uintL_len10 (n := s.length) (by omega)
  simp [textL]; omega
theorem p39 (m : Int) (bs s : List UInt8) (hs : strOk bs) (hn : strOk s) : PureOk PZ (GZ m) XN (tbl [(56, s56)]) (itbl []) nAn [] 39 [bytesA bs, .str s] (ownR (bs ++ textL s)) := by
  have h1 : s.length ≤ 1000000 := hn
  have h2 : bs.length ≤ 1000000 := hs
  have h3 := uintL_len10 (n := s.length) (by omega)
  constructor
  rw [w39, wrapu64_len hn, tbl_hit, s56_at hs (u64Ok_nat (by omega)), Int.toNat_natCast]
  refine ⟨bytesL (bs ++ uintL s.length), ⟨by simp [ownR]⟩, sl_ok, ?_, rfl, ?_, ⟨?_⟩⟩
  · simp [bytesL]; omega
  · simp [bytesL]; omega
  · simp [bytesL, textL]; omega
theorem p68 (m n : Int) (hn : i64Ok n) : PureOk PZ (GZ m) XN (tbl [(89, s89)]) (itbl []) nAn [] 68 [.int .i64 n] (ownR (uintL (zig n))) := by
  constructor
  generalize hr : uintL (zig n) = r
  rw [w68]
  simp only [decide_eq_true_eq, decide_eq_false_iff_not, ge_iff_le]
  refine ⟨fun h => ?_, fun h => ?_⟩
  · rw [zig_ref1 hn h, tbl_hit, s89_at (u64Ok_nat (zig_lt hn)), Int.toNat_natCast, hr]
    exact ⟨bytesL r, ⟨by simp [ownR]⟩, trivial, ⟨by simp []⟩⟩
  · rw [zig_ref2 hn h, tbl_hit, s89_at (u64Ok_nat (zig_lt hn)), Int.toNat_natCast, hr]
    exact ⟨bytesL r, ⟨by simp [ownR]⟩, trivial, ⟨by simp []⟩⟩
theorem p69 (m : Int) (s : List UInt8) (hn : strOk s) : PureOk PZ (GZ m) XN (tbl [(89, s89)]) (itbl []) nAn [] 69 [.str s] (ownR (textL s)) := by
  have h1 : s.length ≤ 1000000 := hn
  have h3 := uintL_len10 (n := s.length) (by omega)
  constructor
  rw [w69, wrapu64_len hn, tbl_hit, s89_at (u64Ok_nat (by omega)), Int.toNat_natCast]
  refine ⟨bytesL (uintL s.length), ⟨by simp [ownR]⟩, sl_ok, ?_, rfl, ?_, ⟨?_⟩⟩
  · simp [bytesL]; omega
  · simp [bytesL]
  · simp [bytesL, textL]
theorem retLax_iff {r : AV} {s : AV × List (Nat × TypeId)} : RetLax r s ↔ Lax2 r s.1 ∧ s.1.closed2 = true ∧ s.2 = [] := ⟨fun h => ⟨h.lax, h.closed, h.none⟩, fun h => ⟨h.1, h.2.1, h.2.2⟩⟩
theorem lax_bytes {l : List UInt8} {o : Own} : RetLax (AV.sl 1 (bytesL l) o) (AV.sl 1 (bytesL l) Own.no, []) := ⟨⟨rfl, rfl, .inl rfl⟩, rfl, rfl⟩
theorem lax_bytes' {l l' : List UInt8} {es : List AV} {o : Own} (h : es = bytesL l') (hl : l' = l) : RetLax (AV.sl 1 es o) (AV.sl 1 (bytesL l) Own.no, []) := by
  subst h; subst hl; exact lax_bytes
theorem zig_len {n : Int} (h : i64Ok n) : (uintL (zig n)).length ≤ 10 := uintL_len10 (zig_lt h)
theorem uintL_ne (n : Nat) : uintL n ≠ [] := by
  have := uintL_length_pos n
  intro h; rw [h] at this; simp at this
theorem p41 (m k n : Int) (s : List UInt8) (hs : strOk s) (hn : i64Ok n) : LaxOk PZ (GZ m) XN (tbl [(68, s68), (69, s69)]) (itbl []) nAn [] 41 [vA k n s] (laxR (encL k n s)) := by
  have h3 := zig_len hn
  have h4 := textlen hs
  constructor
  generalize hr : encL k n s = r
  have t1 : tbl [(68, s68), (69, s69)] 68 [.int .i64 n] = some (ownR (uintL (zig n))) := by rw [tbl_hit, s68_at hn]
  have t2 : tbl [(68, s68), (69, s69)] 69 [.str s] = some (ownR (textL s)) := by rw [tbl_miss (by decide), tbl_hit, s69_at hs]
  rw [w41]
  simp only [t1, t2, callIs_iff, ownR, Option.some.injEq, Prod.mk.injEq, AV.sl.injEq, true_and, and_true, beq_iff_eq, beq_eq_false_iff_ne, ne_eq, true_or, List.cons.injEq]
  have hk := byteOf_int k
  have one : [AV.int IntKind.u8 (IntKind.u8.wrap k)] = bytesL [UInt8.ofNat (IntKind.u8.wrap k).toNat] := by
    rw [bytesL_one, ← hk]
  have key : ∀ l : List UInt8, l.length ≤ 1000010 → UInt8.ofNat (IntKind.u8.wrap k).toNat :: l = r → ∃ es, (bytesL l = es ∧ l.length = es.length) ∧ (1 + es.length) * 2 ≤ 70368744177664 ∧ (es = [] → RetLax (AV.sl 1 [AV.int IntKind.u8 (IntKind.u8.wrap k)] Own.full) (AV.sl 1 (bytesL r) Own.no, [])) ∧
      (¬ es = [] → RetLax (AV.sl 1 ([AV.int IntKind.u8 (IntKind.u8.wrap k)] ++ es) (Own.tok 1)) (AV.sl 1 (bytesL r) Own.no, [])) := by
    intro l hl hr
    refine ⟨_, ⟨rfl, by simp [bytesL]⟩, by simp [bytesL]; omega, fun h => lax_bytes' ?_ hr, fun h => lax_bytes' ?_ hr⟩
    · rw [bytesL_eq_nil] at h; subst h; exact one
    · rw [one]; rfl
  unfold encL at hr
  refine ⟨fun h => ⟨by omega, ?_⟩, fun h1 => ⟨fun h => ?_, fun h2 => ⟨fun h => ?_, fun h3' => ⟨fun h => ?_, fun h4' => ⟨fun h => ?_, fun h5 => ?_⟩⟩⟩⟩⟩
  · rw [if_pos h] at hr
    refine lax_bytes' ?_ hr
    have := byteOf_int n
    rw [show bytesL [UInt8.ofNat (IntKind.u8.wrap k).toNat, UInt8.ofNat (IntKind.u8.wrap n).toNat] = [AV.int .u8 (UInt8.ofNat (IntKind.u8.wrap k).toNat).toNat, AV.int .u8 (UInt8.ofNat (IntKind.u8.wrap n).toNat).toNat] by rfl, ← hk, ← this]
  · rw [if_neg h1, if_pos (.inl h)] at hr
    exact key _ (by omega) hr
  · rw [if_neg h1, if_pos (.inr h)] at hr
    exact key _ (by omega) hr
  · rw [if_neg h1, if_neg (by omega), if_pos (.inl h)] at hr
    exact key _ (by omega) hr
  · rw [if_neg h1, if_neg (by omega), if_pos (.inr h)] at hr
    exact key _ (by omega) hr
  · rw [if_neg h1, if_neg (by omega), if_neg (by omega)] at hr
    exact lax_bytes' one hr
theorem p40 (m : Int) (a b : List UInt8) (ha : strOk a) (hb : strOk b) : LaxOk PZ (GZ m) XN (tbl []) (itbl []) nAn [] 40 [bytesA a, bytesA b] (laxR (a ++ b)) := by
  have h1 : a.length ≤ 1000000 := ha
  have h2 : b.length ≤ 1000000 := hb
  constructor
  rw [w40]
  simp only [bytesL_length, bytesL_eq_nil, List.nil_append, or_true, true_and, Nat.zero_add, true_or, ne_eq]
  refine ⟨by omega, fun h => ⟨by omega, fun h' => ?_, fun h' => ?_⟩, fun h => ⟨by omega, ?_⟩⟩
  · subst h; subst h'; exact ⟨⟨rfl, rfl, .inr rfl⟩, rfl, rfl⟩
  · subst h; exact lax_bytes
  · exact lax_bytes' (bytesL_append a b).symm rfl
theorem wk1 {sz : Nat} {es : List AV} {o : Own} {bs : List UInt8} (hz : sz = 1 ∨ es = []) (hb : unBytes es = some bs) : wkA 1 (.sl sz es o) = bytesA bs := by
  obtain rfl := unBytes_some hb
  rcases hz with rfl | hz
  · cases bs <;> rfl
  · rw [bytesL_eq_nil] at hz; subst hz; rfl
theorem sBN_of {X : Shapes} {R : Callee} {C : CCallee} {m : Int} {g : FuncId} {k : IntKind} {p : Int → Prop} [∀ n, Decidable (p n)] {f : List UInt8 → Int → AV × List (Nat × TypeId)} (hR : CalleeOk PZ (GZ m) R) (hC : ICalleeOk PZ (GZ m) (lowC C))
    (h : ∀ bs n, strOk bs → p n → ∃ A, PureOk PZ (GZ m) X R C A [] g [bytesA bs, .int k n] (f bs n)) : SpecOk PZ (GZ m) g (sBytesNum k p f) := spec_ofW (X := X) (m := []) [1] mixedZ hR hC fun args r h' => by
  unfold sBytesNum onBytes at h'
  split at h'
  · split at h'
    · rename_i hc
      obtain ⟨hz, rfl⟩ := hc
      split at h'
      · rename_i bs hb
        dsimp only at h'
        split at h'
        · rename_i hp
          injection h' with h'; subst h'
          simp only [wkL, wk1 hz hb]
          exact h _ _ hp.1 hp.2
        · cases h'
      · cases h'
    · cases h'
  · cases h'
theorem o56 (m : Int) : SpecOk PZ (GZ m) 56 s56 := sBN_of (X := XN) tbl_nil itbl_nil fun bs n hs hn => ⟨a56 bs n.toNat, by
  obtain ⟨N, rfl⟩ : ∃ N : Nat, n = N := ⟨n.toNat, by have := hn.1; omega⟩
  exact p56 m N bs hs (by have := hn.2; omega)⟩
theorem o38 (m : Int) : SpecOk PZ (GZ m) 38 s38 := sBN_of (X := XN) (tbl_cons (o56 m) tbl_nil) itbl_nil fun bs n hs hn => ⟨nAn, p38 m n bs hs hn⟩
theorem o39 (m : Int) : SpecOk PZ (GZ m) 39 s39 := spec_ofW (X := XN) (m := []) [1] mixedZ (tbl_cons (o56 m) tbl_nil) itbl_nil fun args r h' => by
  unfold s39 onBytes at h'
  split at h'
  · split at h'
    · rename_i hz
      split at h'
      · rename_i bs hb
        dsimp only at h'
        split at h'
        · rename_i hp
          injection h' with h'; subst h'
          simp only [wkL, wk1 hz hb]
          exact ⟨nAn, p39 m _ _ hp.1 hp.2⟩
        · cases h'
      · cases h'
    · cases h'
  · cases h'
theorem o89 (m : Int) : SpecOk PZ (GZ m) 89 s89 := spec_of (X := XN) (m := []) mixedZ tbl_nil itbl_nil fun args r h => by
  unfold s89 at h
  split at h
  · split at h
    · rename_i n hn
      injection h with h; subst h
      obtain ⟨N, rfl⟩ : ∃ N : Nat, n = N := ⟨n.toNat, by have := hn.1; omega⟩
      exact ⟨a89 N, p89 m N (by have := hn.2; omega)⟩
    · cases h
  · cases h
theorem o68 (m : Int) : SpecOk PZ (GZ m) 68 s68 := spec_of (X := XN) (m := []) mixedZ (tbl_cons (o89 m) tbl_nil) itbl_nil fun args r h => by
  unfold s68 at h
  split at h
  · split at h
    · rename_i hn
      injection h with h; subst h
      exact ⟨nAn, p68 m _ hn⟩
    · cases h
  · cases h
theorem o69 (m : Int) : SpecOk PZ (GZ m) 69 s69 := spec_of (X := XN) (m := []) mixedZ (tbl_cons (o89 m) tbl_nil) itbl_nil fun args r h => by
  unfold s69 at h
  split at h
  · split at h
    · rename_i hn
      injection h with h; subst h
      exact ⟨nAn, p69 m _ hn⟩
    · cases h
  · cases h
theorem o41 (m : Int) : SpecOk PZ (GZ m) 41 s41 := lax_of (X := XN) (m := []) mixedZ (tbl_cons (o68 m) (tbl_cons (o69 m) tbl_nil)) itbl_nil fun args r h => by
  unfold s41 at h
  split at h
  · split at h
    · rename_i hn
      injection h with h; subst h
      exact ⟨nAn, p41 m _ _ _ hn.1 hn.2⟩
    · cases h
  · cases h
theorem o40 (m : Int) : SpecOk PZ (GZ m) 40 s40 := lax_ofW (X := XN) (m := []) [1, 1] mixedZ tbl_nil itbl_nil fun args r h' => by
  unfold s40 onBytes at h'
  split at h'
  · split at h'
    · rename_i hz
      split at h'
      · rename_i bs hb
        dsimp only at h'
        split at h'
        · rename_i cs hc
          split at h'
          · rename_i hp
            injection h' with h'; subst h'
            simp only [wkL, wk1 hz.1 hb, wk1 hz.2 hc]
            exact ⟨nAn, p40 m _ _ hp.1 hp.2⟩
          · cases h'
        · cases h'
      · cases h'
    · cases h'
  · cases h'
end Go.Abs

namespace Go.Abs
open Go.Proofs Go.Wire
def shIntR : Sh × Option TypeId := (.tup [.one (.int .i64), .one (.int .i64), .one (.int .i64)], none)
def shUintR : Sh × Option TypeId := (.tup [.one (.int .u64), .one (.int .i64), .one (.int .i64)], none)
def shTextR : Sh × Option TypeId := (.tup [.one .str, .one (.int .i64), .one (.int .i64)], none)
def shValR : Sh × Option TypeId := (.tup [.agg [.int .i64, .int .i64, .str], .one (.int .i64), .one (.int .i64)], none)
def XO : Shapes := fun f => match f with
  | 16 | 17 => some shValR
  | 33 | 36 => some shIntR
  | 66 | 67 => some shUintR
  | 34 | 37 => some shTextR
  | 63 | 62 | 64 | 88 | 105 | 28 => some shI
  | 87 => some shB
  | f => XN f
def leftI (bs : List UInt8) (at_ : Int) : Int := if at_ < 0 ∨ (bs.length : Int) < at_ then -1 else bs.length - at_
def sintA (bs : List UInt8) (at_ : Int) : Int × Int × Int := if (uintA bs at_).2.2 ≠ 0 then (0, 0, (uintA bs at_).2.2) else (unzig (uintA bs at_).1.toNat, (uintA bs at_).2.1, 0)
def sRd (f : List UInt8 → Int → AV) : Spec := fun args => match args with
  | [.sl sz es _, .int .i64 at_] => if sz = 1 ∨ es = [] then onBytes es fun bs => if strOk bs then some (f bs at_, []) else none else none
  | _ => none
def rInt (x : Int × Int × Int) : AV := .tup [.int .i64 x.1, .int .i64 x.2.1, .int .i64 x.2.2]
def rUint (x : Int × Int × Int) : AV := .tup [.int .u64 x.1, .int .i64 x.2.1, .int .i64 x.2.2]
def rText (x : List UInt8 × Int × Int) : AV := .tup [.str x.1, .int .i64 x.2.1, .int .i64 x.2.2]
def s35 : Spec := sRd fun bs at_ => .int .i64 (leftI bs at_)
def s33 : Spec := sRd fun bs at_ => rInt (sintA bs at_)
def s67 : Spec := sRd fun bs at_ => rUint (uintA bs at_)
def s37 : Spec := sRd fun bs at_ => rText (textA bs at_)
structure V3 where
  k : Int
  n : Int
  s : List UInt8
/-- what the bytes say, unchecked: value, place, error -/
def readX (bs : List UInt8) (at_ : Int) : V3 × Int × Int := match bs.drop at_.toNat with
  | [] => (⟨0, 0, []⟩, 0, 41)
  | c :: t =>
      if c.toNat = 0 then (⟨0, 0, []⟩, at_ + 1, 0)
      else if c.toNat = 1 then (match t with | [] => (⟨1, 0, []⟩, 0, 41) | d :: _ => (⟨1, d.toNat, []⟩, at_ + 2, if 1 < d.toNat then 3 else 0))
      else if c.toNat = 2 ∨ c.toNat = 3 then (⟨c.toNat, (sintA bs (at_ + 1)).1, []⟩, (sintA bs (at_ + 1)).2)
      else if c.toNat = 4 ∨ c.toNat = 5 then (⟨c.toNat, 0, (textA bs (at_ + 1)).1⟩, (textA bs (at_ + 1)).2)
      else (⟨c.toNat, 0, []⟩, 0, 3)
def finV (x : V3 × Int × Int) : V3 × Int × Int :=
  let e := if x.2.2 = 0 then checkI x.1.k x.1.n x.1.s else x.2.2
  if e ≠ 0 then (⟨0, 0, []⟩, 0, e) else (x.1, x.2.1, 0)
/-- what Read answers: value, place, error -/
def readV (bs : List UInt8) (at_ : Int) : V3 × Int × Int :=
  if at_ < 0 ∨ (bs.length : Int) < at_ then (⟨0, 0, []⟩, 0, 1) else finV (readX bs at_)
def rVal (x : V3 × Int × Int) : AV := .tup [vA x.1.k x.1.n x.1.s, .int .i64 x.2.1, .int .i64 x.2.2]
def s16 : Spec := sRd fun bs at_ => rVal (readV bs at_)
def cmpI (a b : Int) : Int := if a < b then -1 else if b < a then 1 else 0
def s63 : Spec := fun args => match args with
  | [.int .i64 a, .int .i64 b] => some (.int .i64 (cmpI a b), [])
  | _ => none
end Go.Abs

namespace Go.Abs
open Go.Proofs
theorem w18 (m k n : Int) (bs r s : List UInt8) : (pureW PZ (GZ m) XO (tbl [(12, s12), (38, s38), (39, s39)]) (itbl []) nAn [] 18 [bytesA bs, vA k n s] (ownR r)) =
(((0 : Int) ≤ (0 : Int) ∧
    (0 : Int) ≤ IntKind.i64.wrap ((↑(bytesL bs).length : Int) + (16 : Int)) ∧
      IntKind.i64.wrap ((↑(bytesL bs).length : Int) + (16 : Int)) * (2 : Int) ≤ (70368744177664 : Int)) ∧
  (nat_lit 1 = nat_lit 1 ∨ ([] : List AV) = []) ∧
    (nat_lit 0 + (bytesL bs).length) * nat_lit 2 ≤ nat_lit 70368744177664 ∧
      nat_lit 0 = nat_lit 0 ∧
        ∃ (n_1 : Int),
 CallIs (tbl [(nat_lit 12, s12), (nat_lit 38, s38), (nat_lit 39, s39)] (nat_lit 12) [AV.agg [AV.int IntKind.i64 k, AV.int IntKind.i64 n, AV.str s]])
 (AV.int IntKind.i64 n_1) [] ∧
 ((n_1 != (0 : Int)) = true →
 (nat_lit 0 + (bytesL bs).length, nat_lit 5).fst = ([] ++ bytesL bs).length ∧
 RetIs (AV.sl (nat_lit 1) ([] ++ bytesL bs) (Own.tok (nat_lit 0))) [(nat_lit 0 + (bytesL bs).length, nat_lit 5)]
 (AV.sl (nat_lit 1) (bytesL r) (Own.tok (nat_lit 0)), [(r.length, nat_lit 5)])) ∧
 ((n_1 != (0 : Int)) = false →
 (nat_lit 1 = nat_lit 1 ∨ [] ++ bytesL bs = []) ∧
 (([] ++ bytesL bs).length + (1 : Nat)) * nat_lit 2 ≤ nat_lit 70368744177664 ∧
 nat_lit 0 + (bytesL bs).length = ([] ++ bytesL bs).length ∧
 ((k == (1 : Int)) = true →
 (nat_lit 1 = nat_lit 1 ∨ [] ++ bytesL bs ++ [AV.int IntKind.u8 (IntKind.u8.wrap k)] = []) ∧
 (([] ++ bytesL bs ++ [AV.int IntKind.u8 (IntKind.u8.wrap k)]).length + (1 : Nat)) * nat_lit 2 ≤ nat_lit 70368744177664 ∧
 ([] ++ bytesL bs).length + nat_lit 1 = ([] ++ bytesL bs ++ [AV.int IntKind.u8 (IntKind.u8.wrap k)]).length ∧
 (([] ++ bytesL bs ++ [AV.int IntKind.u8 (IntKind.u8.wrap k)]).length + nat_lit 1, nat_lit 5).fst =
 ([] ++ bytesL bs ++ [AV.int IntKind.u8 (IntKind.u8.wrap k)] ++ [AV.int IntKind.u8 (IntKind.u8.wrap n)]).length ∧
 RetIs
 (AV.sl (nat_lit 1) ([] ++ bytesL bs ++ [AV.int IntKind.u8 (IntKind.u8.wrap k)] ++ [AV.int IntKind.u8 (IntKind.u8.wrap n)])
 (Own.tok (nat_lit 0)))
 [(([] ++ bytesL bs ++ [AV.int IntKind.u8 (IntKind.u8.wrap k)]).length + nat_lit 1, nat_lit 5)]
 (AV.sl (nat_lit 1) (bytesL r) (Own.tok (nat_lit 0)), [(r.length, nat_lit 5)])) ∧
 ((k == (1 : Int)) = false →
 ((k == (2 : Int)) = true →
 ∃ (es : List AV),
 CallIs
 (tbl [(nat_lit 12, s12), (nat_lit 38, s38), (nat_lit 39, s39)] (nat_lit 38)
 [AV.sl (nat_lit 1) ([] ++ bytesL bs ++ [AV.int IntKind.u8 (IntKind.u8.wrap k)]) Own.no, AV.int IntKind.i64 n])
 (AV.sl (nat_lit 1) es (Own.tok (nat_lit 0))) [(es.length, nat_lit 5)] ∧
 (es.length, nat_lit 5).fst = es.length ∧
 RetIs (AV.sl (nat_lit 1) es (Own.tok (nat_lit 0))) [(es.length, nat_lit 5)]
 (AV.sl (nat_lit 1) (bytesL r) (Own.tok (nat_lit 0)), [(r.length, nat_lit 5)])) ∧
 ((k == (2 : Int)) = false →
 ((k == (3 : Int)) = true →
 ∃ (es : List AV),
 CallIs
 (tbl [(nat_lit 12, s12), (nat_lit 38, s38), (nat_lit 39, s39)] (nat_lit 38)
 [AV.sl (nat_lit 1) ([] ++ bytesL bs ++ [AV.int IntKind.u8 (IntKind.u8.wrap k)]) Own.no, AV.int IntKind.i64 n])
 (AV.sl (nat_lit 1) es (Own.tok (nat_lit 0))) [(es.length, nat_lit 5)] ∧
 (es.length, nat_lit 5).fst = es.length ∧
 RetIs (AV.sl (nat_lit 1) es (Own.tok (nat_lit 0))) [(es.length, nat_lit 5)]
 (AV.sl (nat_lit 1) (bytesL r) (Own.tok (nat_lit 0)), [(r.length, nat_lit 5)])) ∧
 ((k == (3 : Int)) = false →
 ((k == (4 : Int)) = true →
 ∃ (es : List AV),
 CallIs
 (tbl [(nat_lit 12, s12), (nat_lit 38, s38), (nat_lit 39, s39)] (nat_lit 39)
 [AV.sl (nat_lit 1) ([] ++ bytesL bs ++ [AV.int IntKind.u8 (IntKind.u8.wrap k)]) Own.no, AV.str s])
 (AV.sl (nat_lit 1) es (Own.tok (nat_lit 0))) [(es.length, nat_lit 5)] ∧
 (es.length, nat_lit 5).fst = es.length ∧
 RetIs (AV.sl (nat_lit 1) es (Own.tok (nat_lit 0))) [(es.length, nat_lit 5)]
 (AV.sl (nat_lit 1) (bytesL r) (Own.tok (nat_lit 0)), [(r.length, nat_lit 5)])) ∧
 ((k == (4 : Int)) = false →
 ((k == (5 : Int)) = true →
 ∃ (es : List AV),
 CallIs
 (tbl [(nat_lit 12, s12), (nat_lit 38, s38), (nat_lit 39, s39)] (nat_lit 39)
 [AV.sl (nat_lit 1) ([] ++ bytesL bs ++ [AV.int IntKind.u8 (IntKind.u8.wrap k)]) Own.no, AV.str s])
 (AV.sl (nat_lit 1) es (Own.tok (nat_lit 0))) [(es.length, nat_lit 5)] ∧
 (es.length, nat_lit 5).fst = es.length ∧
 RetIs (AV.sl (nat_lit 1) es (Own.tok (nat_lit 0))) [(es.length, nat_lit 5)]
 (AV.sl (nat_lit 1) (bytesL r) (Own.tok (nat_lit 0)), [(r.length, nat_lit 5)])) ∧
 ((k == (5 : Int)) = false →
 (([] ++ bytesL bs).length + nat_lit 1, nat_lit 5).fst =
 ([] ++ bytesL bs ++ [AV.int IntKind.u8 (IntKind.u8.wrap k)]).length ∧
 RetIs (AV.sl (nat_lit 1) ([] ++ bytesL bs ++ [AV.int IntKind.u8 (IntKind.u8.wrap k)]) (Own.tok (nat_lit 0)))
 [(([] ++ bytesL bs).length + nat_lit 1, nat_lit 5)]
 (AV.sl (nat_lit 1) (bytesL r) (Own.tok (nat_lit 0)), [(r.length, nat_lit 5)])))))))) := by kernel_rfl
theorem w19 (m k n : Int) (bs r s : List UInt8) : (laxW PZ (GZ m) XO (tbl [(24, s24), (40, s40), (41, s41)]) (itbl []) nAn [] 19 [bytesA bs, vA k n s] (laxR r)) =
(∃ (b : Bool),
  CallIs (tbl [(nat_lit 24, s24), (nat_lit 40, s40), (nat_lit 41, s41)] (nat_lit 24) [AV.agg [AV.int IntKind.i64 k, AV.int IntKind.i64 n, AV.str s]])
      (AV.bool b) [] ∧
    (b = true →
        ∃ (es : List AV),
 CallIs (tbl [(nat_lit 24, s24), (nat_lit 40, s40), (nat_lit 41, s41)] (nat_lit 41) [AV.agg [AV.int IntKind.i64 k, AV.int IntKind.i64 n, AV.str s]])
 (AV.sl (nat_lit 1) es Own.no) [] ∧
 ∃ (es_1 : List AV),
 CallIs
 (tbl [(nat_lit 24, s24), (nat_lit 40, s40), (nat_lit 41, s41)] (nat_lit 40)
 [AV.sl (nat_lit 1) (bytesL bs) Own.no, AV.sl (nat_lit 1) es Own.no])
 (AV.sl (nat_lit 1) es_1 Own.no) [] ∧
 RetLax (AV.sl (nat_lit 1) es_1 Own.no) (AV.sl (nat_lit 1) (bytesL r) Own.no, [])) ∧
      (b = false →
        ∃ (es : List AV),
 CallIs
 (tbl [(nat_lit 24, s24), (nat_lit 40, s40), (nat_lit 41, s41)] (nat_lit 40) [AV.sl (nat_lit 1) (bytesL bs) Own.no, AV.sl (nat_lit 0) [] Own.nil])
 (AV.sl (nat_lit 1) es Own.no) [] ∧
 RetLax (AV.sl (nat_lit 1) es Own.no) (AV.sl (nat_lit 1) (bytesL r) Own.no, []))) := by kernel_rfl
theorem w33 (m at_ : Int) (bs : List UInt8) (r : AV) : (pureW PZ (GZ m) XO (tbl [(66, sReadUint)]) (itbl []) nAn [] 33 [bytesA bs, .int .i64 at_] (r, [])) =
(∃ (n : Int),
  ∃ (n_1 : Int),
    ∃ (n_2 : Int),
      CallIs (tbl [(nat_lit 66, sReadUint)] (nat_lit 66) [AV.sl (nat_lit 1) (bytesL bs) Own.no, AV.int IntKind.i64 at_])
 (AV.tup [AV.int IntKind.u64 n, AV.int IntKind.i64 n_1, AV.int IntKind.i64 n_2]) [] ∧
        ((n_2 != (0 : Int)) = true → RetIs (AV.tup [AV.int IntKind.i64 (0 : Int), AV.int IntKind.i64 (0 : Int), AV.int IntKind.i64 n_2]) [] (r, [])) ∧
 ((n_2 != (0 : Int)) = false →
 (0 : Int) ≤ (1 : Int) ∧
 RetIs
 (AV.tup
 [AV.int IntKind.i64
 (IntKind.i64.wrap
 (↑(BitVec.ofInt IntKind.i64.bits (IntKind.i64.wrap (n.fdiv ((2 : Int) ^ min (Int.toNat (1 : Int)) IntKind.u64.bits))) ^^^
 BitVec.ofInt IntKind.i64.bits
 (IntKind.i64.wrap
 ((0 : Int) -
 IntKind.i64.wrap
 (IntKind.u64.wrap
 (↑((fun (x1 x2 : BitVec IntKind.u64.bits) => x1 &&& x2) (BitVec.ofInt IntKind.u64.bits n)
 (BitVec.ofInt IntKind.u64.bits (1 : Int))).toNat :
 Int))))).toNat :
 Int)),
 AV.int IntKind.i64 n_1, AV.int IntKind.i64 (0 : Int)])
 [] (r, []))) := by kernel_rfl
theorem w35 (m at_ : Int) (bs : List UInt8) (r : AV) : (pureW PZ (GZ m) XO (tbl []) (itbl []) nAn [] 35 [bytesA bs, .int .i64 at_] (r, [])) =
((decide (at_ < (0 : Int)) = true → RetIs (AV.int IntKind.i64 (-1 : Int)) [] (r, [])) ∧
  (decide (at_ < (0 : Int)) = false →
    (decide (at_ > (↑(bytesL bs).length : Int)) = true → RetIs (AV.int IntKind.i64 (-1 : Int)) [] (r, [])) ∧
      (decide (at_ > (↑(bytesL bs).length : Int)) = false → RetIs (AV.int IntKind.i64 (IntKind.i64.wrap ((↑(bytesL bs).length : Int) - at_))) [] (r, [])))) := by kernel_rfl
theorem w36 (m at_ : Int) (bs : List UInt8) (r : AV) : (pureW PZ (GZ m) XO (tbl [(67, s67)]) (itbl []) nAn [] 36 [bytesA bs, .int .i64 at_] (r, [])) =
(∃ (n : Int),
  ∃ (n_1 : Int),
    ∃ (n_2 : Int),
      CallIs (tbl [(nat_lit 67, s67)] (nat_lit 67) [AV.sl (nat_lit 1) (bytesL bs) Own.no, AV.int IntKind.i64 at_])
 (AV.tup [AV.int IntKind.u64 n, AV.int IntKind.i64 n_1, AV.int IntKind.i64 n_2]) [] ∧
        ((n_2 != (0 : Int)) = true → RetIs (AV.tup [AV.int IntKind.i64 (0 : Int), AV.int IntKind.i64 (0 : Int), AV.int IntKind.i64 n_2]) [] (r, [])) ∧
 ((n_2 != (0 : Int)) = false →
 (2 : Int) ≠ (0 : Int) ∧
 ((n.tmod (2 : Int) == (1 : Int)) = true →
 (2 : Int) ≠ (0 : Int) ∧
 RetIs
 (AV.tup
 [AV.int IntKind.i64
 (IntKind.i64.wrap (IntKind.i64.wrap ((0 : Int) - IntKind.i64.wrap (IntKind.u64.wrap (n.tdiv (2 : Int)))) - (1 : Int))),
 AV.int IntKind.i64 n_1, AV.int IntKind.i64 (0 : Int)])
 [] (r, [])) ∧
 ((n.tmod (2 : Int) == (1 : Int)) = false →
 (2 : Int) ≠ (0 : Int) ∧
 RetIs
 (AV.tup
 [AV.int IntKind.i64 (IntKind.i64.wrap (IntKind.u64.wrap (n.tdiv (2 : Int)))), AV.int IntKind.i64 n_1, AV.int IntKind.i64 (0 : Int)])
 [] (r, [])))) := by kernel_rfl
theorem w37 (m at_ : Int) (bs : List UInt8) (r : AV) : (pureW PZ (GZ m) XO (tbl [(67, s67)]) (itbl []) nAn [] 37 [bytesA bs, .int .i64 at_] (r, [])) =
(∃ (n : Int),
  ∃ (n_1 : Int),
    ∃ (n_2 : Int),
      CallIs (tbl [(nat_lit 67, s67)] (nat_lit 67) [AV.sl (nat_lit 1) (bytesL bs) Own.no, AV.int IntKind.i64 at_])
 (AV.tup [AV.int IntKind.u64 n, AV.int IntKind.i64 n_1, AV.int IntKind.i64 n_2]) [] ∧
        ((n_2 != (0 : Int)) = true → RetIs (AV.tup [AV.str [], AV.int IntKind.i64 (0 : Int), AV.int IntKind.i64 n_2]) [] (r, [])) ∧
 ((n_2 != (0 : Int)) = false →
 (decide (n > IntKind.u64.wrap (IntKind.i64.wrap ((↑(bytesL bs).length : Int) - n_1))) = true →
 RetIs (AV.tup [AV.str [], AV.int IntKind.i64 (0 : Int), AV.int IntKind.i64 (41 : Int)]) [] (r, [])) ∧
 (decide (n > IntKind.u64.wrap (IntKind.i64.wrap ((↑(bytesL bs).length : Int) - n_1))) = false →
 (0 : Int) ≤ n_1 ∧
 (0 : Int) ≤ IntKind.i64.wrap (n_1 + IntKind.i64.wrap n) ∧
 (n_1.toNat ≤ (IntKind.i64.wrap (n_1 + IntKind.i64.wrap n)).toNat ∧
 (IntKind.i64.wrap (n_1 + IntKind.i64.wrap n)).toNat ≤ (bytesL bs).length) ∧
 (nat_lit 1 = nat_lit 1 ∨ bytesL bs = []) ∧
 (nat_lit 1 = nat_lit 1 ∨ List.drop n_1.toNat (List.take (IntKind.i64.wrap (n_1 + IntKind.i64.wrap n)).toNat (bytesL bs)) = []) ∧
 ∃ (l : List UInt8),
 List.mapM byteOf (List.drop n_1.toNat (List.take (IntKind.i64.wrap (n_1 + IntKind.i64.wrap n)).toNat (bytesL bs))) = some l ∧
 RetIs (AV.tup [AV.str l, AV.int IntKind.i64 (IntKind.i64.wrap (n_1 + IntKind.i64.wrap n)), AV.int IntKind.i64 (0 : Int)]) []
 (r, [])))) := by kernel_rfl
theorem w87 (m a : Int) (r : AV) : (pureW PZ (GZ m) XO (tbl []) (itbl []) nAn [] 87 [.int .i64 a] (r, [])) =
(((a != a) = true → RetIs (AV.bool true) [] (r, [])) ∧ ((a != a) = false → RetIs (AV.bool false) [] (r, []))) := by kernel_rfl
end Go.Abs

namespace Go.Abs
open Go.Proofs Go.Wire
theorem oneB (k : Int) : [AV.int IntKind.u8 (IntKind.u8.wrap k)] = bytesL [UInt8.ofNat (IntKind.u8.wrap k).toNat] := by
  rw [bytesL_one, ← byteOf_int k]
theorem callSome {x : AV × List (Nat × TypeId)} {r : AV} {lv : List (Nat × TypeId)} (h : x = (r, lv)) : CallIs (some x) r lv := ⟨by rw [h]⟩
theorem own_call {l : List UInt8} {es : List AV} (h : bytesL l = es) : CallIs (some (ownR l)) (.sl 1 es (.tok 0)) [(es.length, 5)] := ⟨by subst h; simp [ownR]⟩
theorem own_ret {l r : List UInt8} (h : l = r) : RetIs (.sl 1 (bytesL l) (.tok 0)) [((bytesL l).length, 5)] (.sl 1 (bytesL r) (.tok 0), [(r.length, 5)]) := ⟨by subst h; simp []⟩
theorem s12_at {k n : Int} {s : List UInt8} (h : strOk s) : s12 [.agg [.int .i64 k, .int .i64 n, .str s]] = some (.int .i64 (checkI k n s), []) := by
  simp only [s12, sVal, h, if_true]
theorem s24_at {k n : Int} {s : List UInt8} (h : strOk s) : s24 [.agg [.int .i64 k, .int .i64 n, .str s]] = some (.bool (validB k n s), []) := by
  simp only [s24, sVal, h, if_true]
theorem strOk_app {bs s : List UInt8} (h : bs.length + s.length ≤ 1000000) : strOk (bs ++ s) := by show (bs ++ s).length ≤ 1000000; simpa using h
theorem p18 (m k n : Int) (bs s : List UInt8) (hb : smallOk bs) (hs : strOk s) (hn : i64Ok n) : PureOk PZ (GZ m) XO (tbl [(12, s12), (38, s38), (39, s39)]) (itbl []) nAn [] 18 [bytesA bs, vA k n s] (ownR (appL bs k n s)) := by
  have h1 : bs.length ≤ 900000 := hb
  have h2 := hs
  constructor
  generalize hr : appL bs k n s = r
  unfold appL at hr
  have t1 : tbl [(12, s12), (38, s38), (39, s39)] 12 [.agg [.int .i64 k, .int .i64 n, .str s]] = some (.int .i64 (checkI k n s), []) := by rw [tbl_hit, s12_at hs]
  have hw : IntKind.i64.wrap ((bs.length : Int) + 16) = bs.length + 16 := wrap64_in (by omega) (by omega)
  have ho : ∀ x : UInt8, strOk (bs ++ [x]) := fun x => strOk_app (by simp; omega)
  rw [w18]
  simp only [t1, hw, List.nil_append, oneB, ← bytesL_append, bytesL_length, callIs_iff, Option.some.injEq, Prod.mk.injEq, AV.int.injEq, true_and, and_true, true_or, beq_iff_eq, beq_eq_false_iff_ne, bne_iff_ne, bne_eq_false_iff_eq, ne_eq, exists_eq_left', Nat.zero_add, List.length_append, List.length_cons, List.length_nil]
  refine ⟨by omega, by omega, fun h => ?_, fun h => ⟨by omega, fun h1' => ⟨by omega, ?_⟩, fun h1' => ⟨fun h2' => ?_, fun h2' => ⟨fun h3' => ?_, fun h3' => ⟨fun h4' => ?_, fun h4' => ⟨fun h5' => ?_, fun h5' => ?_⟩⟩⟩⟩⟩⟩
  · rw [if_neg (by simp [validB, h]), List.append_nil] at hr
    exact ⟨by subst hr; rfl⟩
  all_goals rw [if_pos (by simp [validB, h])] at hr
  all_goals unfold encL at hr
  · rw [if_pos h1'] at hr
    refine ⟨by subst hr; simp⟩
  · rw [if_neg h1', if_pos (.inl h2')] at hr
    refine ⟨bytesL r, ?_, ⟨by simp []⟩⟩
    rw [tbl_miss (by decide), tbl_hit, s38_at (ho _) hn, ← hr]
    simp [ownR, bytesL]
  · rw [if_neg h1', if_pos (.inr h3')] at hr
    refine ⟨bytesL r, ?_, ⟨by simp []⟩⟩
    rw [tbl_miss (by decide), tbl_hit, s38_at (ho _) hn, ← hr]
    simp [ownR, bytesL]
  · rw [if_neg h1', if_neg (by omega), if_pos (.inl h4')] at hr
    refine ⟨bytesL r, ?_, ⟨by simp []⟩⟩
    rw [tbl_miss (by decide), tbl_miss (by decide), tbl_hit, s39_at (ho _) hs, ← hr]
    simp [ownR, bytesL]
  · rw [if_neg h1', if_neg (by omega), if_pos (.inr h5')] at hr
    refine ⟨bytesL r, ?_, ⟨by simp []⟩⟩
    rw [tbl_miss (by decide), tbl_miss (by decide), tbl_hit, s39_at (ho _) hs, ← hr]
    simp [ownR, bytesL]
  · rw [if_neg h1', if_neg (by omega), if_neg (by omega)] at hr
    exact ⟨by subst hr; simp⟩
theorem encL_len {k n : Int} {s : List UInt8} (hs : strOk s) (hn : i64Ok n) : (encL k n s).length ≤ 1000011 := by
  have h1 := zig_len hn
  have h2 := textlen hs
  unfold encL
  split
  · simp
  · split
    · simp; omega
    · split
      · simp; omega
      · simp
theorem valid_len {k n : Int} {s : List UInt8} (h : validB k n s = true) (_hs : strOk s) (hn : i64Ok n) : (encL k n s).length ≤ 300 := by
  have h1 := zig_len hn
  have hc : checkI k n s = 0 := by simpa [validB] using h
  unfold checkI at hc
  split at hc
  · cases hc
  · split at hc
    · cases hc
    · rename_i h2 h3
      unfold encL
      split
      · simp
      · split
        · simp; omega
        · split
          · have : s.length ≤ 64 := by
              by_cases h4 : k = 4
              · exact Nat.le_of_not_lt fun h => h3 (.inr (.inl ⟨h4, h⟩))
              · have : s.length ≤ 32 := Nat.le_of_not_lt fun h => h3 (.inr (.inr ⟨by omega, h⟩))
                omega
            have h5 := uintL_len10 (n := s.length) (by omega)
            simp [textL]; omega
          · simp
theorem p19 (m k n : Int) (bs s : List UInt8) (hb : smallOk bs) (hs : strOk s) (hn : i64Ok n) : LaxOk PZ (GZ m) XO (tbl [(24, s24), (40, s40), (41, s41)]) (itbl []) nAn [] 19 [bytesA bs, vA k n s] (laxR (appL bs k n s)) := by
  have h1 : bs.length ≤ 900000 := hb
  have hb' : strOk bs := by show bs.length ≤ 1000000; omega
  have t1 : tbl [(24, s24), (40, s40), (41, s41)] 24 [.agg [.int .i64 k, .int .i64 n, .str s]] = some (.bool (validB k n s), []) := by rw [tbl_hit, s24_at hs]
  have t2 : tbl [(24, s24), (40, s40), (41, s41)] 41 [.agg [.int .i64 k, .int .i64 n, .str s]] = some (laxR (encL k n s)) := by
    rw [tbl_miss (by decide), tbl_miss (by decide), tbl_hit]; simp only [s41, hs, hn, and_self, if_true]
  have t3 : ∀ (sz : Nat) (l : List UInt8) (o : Own), sz = 1 ∨ bytesL l = [] → strOk l → tbl [(24, s24), (40, s40), (41, s41)] 40 [.sl 1 (bytesL bs) .no, .sl sz (bytesL l) o] = some (laxR (bs ++ l)) := fun sz l o hz hl => by
    rw [tbl_miss (by decide), tbl_hit]; simp only [s40, onBytes, unBytes_mk, true_or, hz, hl, hb', if_true, and_self]
  constructor
  rw [w19]
  simp only [t1, t2, callIs_iff, Option.some.injEq, Prod.mk.injEq, AV.bool.injEq, true_and, and_true, exists_eq_left', laxR, AV.sl.injEq]
  refine ⟨fun h => ?_, fun h => ?_⟩
  · have h2 := valid_len h hs hn
    refine ⟨bytesL (bs ++ encL k n s), by rw [t3 _ _ _ (.inl rfl) (by show _ ≤ _; omega)]; rfl, ?_⟩
    unfold appL; rw [if_pos h]; exact lax_bytes
  · refine ⟨bytesL bs, ?_, ?_⟩
    · have := t3 0 [] .nil (.inr rfl) (by show _ ≤ _; simp)
      rw [List.append_nil] at this
      exact this
    · unfold appL; rw [if_neg (by rw [h]; simp), List.append_nil]; exact lax_bytes
theorem sApp_of {X : Shapes} {R : Callee} {C : CCallee} {m : Int} {g : FuncId} {f : List UInt8 → AV × List (Nat × TypeId)} (hR : CalleeOk PZ (GZ m) R) (hC : ICalleeOk PZ (GZ m) (lowC C))
    (h : ∀ bs k n s, smallOk bs → strOk s → i64Ok n → ∃ A, PureOk PZ (GZ m) X R C A [] g [bytesA bs, vA k n s] (f (appL bs k n s))) : SpecOk PZ (GZ m) g (sApp f) := spec_ofW (X := X) (m := []) [1] mixedZ hR hC fun args r h' => by
  unfold sApp onBytes at h'
  split at h'
  · split at h'
    · rename_i hz
      split at h'
      · rename_i bs hb
        dsimp only at h'
        split at h'
        · rename_i hp
          injection h' with h'; subst h'
          simp only [wkL, wk1 hz hb]
          exact h _ _ _ _ hp.1 hp.2.1 hp.2.2
        · cases h'
      · cases h'
    · cases h'
  · cases h'
theorem sAppLax_of {X : Shapes} {R : Callee} {C : CCallee} {m : Int} {g : FuncId} {f : List UInt8 → AV × List (Nat × TypeId)} (hR : CalleeOk PZ (GZ m) R) (hC : ICalleeOk PZ (GZ m) (lowC C))
    (h : ∀ bs k n s, smallOk bs → strOk s → i64Ok n → ∃ A, LaxOk PZ (GZ m) X R C A [] g [bytesA bs, vA k n s] (f (appL bs k n s))) : SpecOk PZ (GZ m) g (sApp f) := lax_ofW (X := X) (m := []) [1] mixedZ hR hC fun args r h' => by
  unfold sApp onBytes at h'
  split at h'
  · split at h'
    · rename_i hz
      split at h'
      · rename_i bs hb
        dsimp only at h'
        split at h'
        · rename_i hp
          injection h' with h'; subst h'
          simp only [wkL, wk1 hz hb]
          exact h _ _ _ _ hp.1 hp.2.1 hp.2.2
        · cases h'
      · cases h'
    · cases h'
  · cases h'
theorem o18 (m : Int) : SpecOk PZ (GZ m) 18 s18 := sApp_of (X := XO) (tbl_cons (o12 m) (tbl_cons (o38 m) (tbl_cons (o39 m) tbl_nil))) itbl_nil fun bs k n s hb hs hn => ⟨nAn, p18 m k n bs s hb hs hn⟩
theorem o19 (m : Int) : SpecOk PZ (GZ m) 19 s19 := sAppLax_of (X := XO) (tbl_cons (o24 m) (tbl_cons (o40 m) (tbl_cons (o41 m) tbl_nil))) itbl_nil fun bs k n s hb hs hn => ⟨nAn, p19 m k n bs s hb hs hn⟩
end Go.Abs

namespace Go.Abs
open Go.Proofs Go.Wire
theorem p35 (m at_ : Int) (bs : List UInt8) (hb : strOk bs) : PureOk PZ (GZ m) XO (tbl []) (itbl []) nAn [] 35 [bytesA bs, .int .i64 at_] (.int .i64 (leftI bs at_), []) := by
  have h1 : bs.length ≤ 1000000 := hb
  constructor
  rw [w35]
  simp only [bytesL_length, decide_eq_true_eq, decide_eq_false_iff_not, gt_iff_lt, retIs_iff, Prod.mk.injEq, and_true, AV.int.injEq, true_and, leftI]
  refine ⟨fun h => by rw [if_pos (.inl h)], fun h => ⟨fun h2 => by rw [if_pos (.inr h2)], fun h2 => ?_⟩⟩
  rw [if_neg (by omega)]
  exact wrap64_in (by omega) (by omega)
theorem sReadUint_at {bs : List UInt8} {at_ : Int} {o : Own} (h : strOk bs) : sReadUint [.sl 1 (bytesL bs) o, .int .i64 at_] = some (rUint (uintA bs at_), []) := by
  have h1 : bs.length ≤ 1000000 := h
  have h2 : lenOk bs := by show (bs.length : Int) ≤ _; omega
  simp only [sReadUint, true_or, if_true, unBytes_mk, Option.bind_some, h2, rUint]
theorem sRd_at {f : List UInt8 → Int → AV} {bs : List UInt8} {at_ : Int} {o : Own} (h : strOk bs) : sRd f [.sl 1 (bytesL bs) o, .int .i64 at_] = some (f bs at_, []) := by
  simp only [sRd, onBytes, unBytes_mk, true_or, if_true, h]
theorem uintA_bound {bs : List UInt8} {at_ : Int} : 0 ≤ (uintA bs at_).1 ∧ (uintA bs at_).1 < 18446744073709551616 := by
  unfold uintA
  split
  · simp
  · split
    · simp
    · rename_i v m h
      have := (uintP_bound _ _ _ _ h).1
      have e : 2 ^ (7 * (10 - 1) + 1) = 18446744073709551616 := by decide
      simp only []
      omega
theorem unzig_bits {v : Nat} (h : v < 18446744073709551616) : IntKind.i64.wrap
                        (↑(BitVec.ofInt IntKind.i64.bits (IntKind.i64.wrap ((v : Int).fdiv ((2 : Int) ^ min (Int.toNat (1 : Int)) IntKind.u64.bits))) ^^^
                                BitVec.ofInt IntKind.i64.bits
                                  (IntKind.i64.wrap
                                    ((0 : Int) -
                                      IntKind.i64.wrap
                                        (IntKind.u64.wrap
                                          (↑(BitVec.ofInt IntKind.u64.bits (v : Int) &&&
                                                  BitVec.ofInt IntKind.u64.bits (1 : Int)).toNat :
                                            Int))))).toNat :
                          Int) = unzig v := by
  have e1 : IntKind.u64.bits = 64 := rfl
  have e2 : IntKind.i64.bits = 64 := rfl
  rw [e1, e2, show min (Int.toNat 1) 64 = 1 by decide, Int.pow_succ, Int.pow_zero, Int.one_mul, Int.fdiv_eq_ediv_of_nonneg _ (by omega)]
  have e3 : (BitVec.ofInt 64 (v : Int) &&& BitVec.ofInt 64 (1 : Int)).toNat = v % 2 := by
    have : BitVec.ofInt 64 (1 : Int) = BitVec.ofNat 64 1 := by decide
    rw [this, BitVec.ofInt_natCast, BitVec.toNat_and, BitVec.toNat_ofNat, BitVec.toNat_ofNat, show 1 % 2 ^ 64 = 1 by decide, Nat.and_one_is_mod]
    omega
  rw [e3]
  have e4 : (v : Int) / 2 = ((v / 2 : Nat) : Int) := by omega
  have e5 : IntKind.i64.wrap ((v / 2 : Nat) : Int) = ((v / 2 : Nat) : Int) := wrap64_in (by omega) (by omega)
  have e6 : IntKind.i64.wrap (IntKind.u64.wrap ((v % 2 : Nat) : Int)) = ((v % 2 : Nat) : Int) := by
    rw [wrapu64]; rw [wrap64_in (by omega) (by omega)]; omega
  rw [e4, e5, e6, BitVec.ofInt_natCast]
  unfold unzig
  rcases Nat.mod_two_eq_zero_or_one v with h0 | h0
  · rw [h0, if_neg (by omega)]
    have : BitVec.ofInt 64 (IntKind.i64.wrap (0 - ((0 : Nat) : Int))) = 0#64 := by decide
    rw [this, BitVec.xor_zero, BitVec.toNat_ofNat, Nat.mod_eq_of_lt (by omega), e5]
  · rw [h0, if_pos rfl]
    have : BitVec.ofInt 64 (IntKind.i64.wrap (0 - ((1 : Nat) : Int))) = BitVec.allOnes 64 := by decide
    rw [this, bv_neg _ (by omega), wrapi64]
    omega
theorem p33 (m at_ : Int) (bs : List UInt8) (hb : strOk bs) : PureOk PZ (GZ m) XO (tbl [(66, sReadUint)]) (itbl []) nAn [] 33 [bytesA bs, .int .i64 at_] (rInt (sintA bs at_), []) := by
  constructor
  rw [w33, tbl_hit, sReadUint_at hb]
  obtain ⟨h0, h1⟩ := uintA_bound (bs := bs) (at_ := at_)
  refine ⟨_, _, _, callSome rfl, ?_, ?_⟩
  all_goals simp only [bne_iff_ne, bne_eq_false_iff_eq, ne_eq]
  · intro h
    refine ⟨?_⟩
    unfold sintA; rw [if_pos h]; rfl
  · intro h
    refine ⟨by omega, ⟨?_⟩⟩
    unfold sintA; rw [if_neg (by omega)]
    obtain ⟨v, hv⟩ : ∃ v : Nat, (uintA bs at_).1 = v := ⟨(uintA bs at_).1.toNat, by omega⟩
    rw [hv] at h1 ⊢
    rw [unzig_bits (by omega)]; rfl
theorem p36 (m at_ : Int) (bs : List UInt8) (hb : strOk bs) : PureOk PZ (GZ m) XO (tbl [(67, s67)]) (itbl []) nAn [] 36 [bytesA bs, .int .i64 at_] (rInt (sintA bs at_), []) := by
  constructor
  rw [w36, tbl_hit]
  unfold s67
  rw [sRd_at hb]
  obtain ⟨h0, h1⟩ := uintA_bound (bs := bs) (at_ := at_)
  refine ⟨_, _, _, callSome rfl, ?_, ?_⟩
  all_goals simp only [bne_iff_ne, bne_eq_false_iff_eq, ne_eq, beq_iff_eq, beq_eq_false_iff_ne]
  · intro h
    refine ⟨?_⟩
    unfold sintA; rw [if_pos h]; rfl
  · intro h
    obtain ⟨v, hv⟩ : ∃ v : Nat, (uintA bs at_).1 = v := ⟨(uintA bs at_).1.toNat, by omega⟩
    rw [hv] at h1 ⊢
    rw [Int.tmod_eq_emod_of_nonneg (by omega), Int.tdiv_eq_ediv_of_nonneg (by omega)]
    refine ⟨by omega, fun h2 => ⟨by omega, ⟨?_⟩⟩, fun h2 => ⟨by omega, ⟨?_⟩⟩⟩
    · have e : IntKind.i64.wrap (IntKind.i64.wrap ((0 : Int) - IntKind.i64.wrap (IntKind.u64.wrap ((v : Int) / (2 : Int)))) - (1 : Int)) = -((v / 2 : Nat) : Int) - 1 := by
        rw [wrapi64, wrapi64, wrapi64, wrapu64]; omega
      rw [e]
      unfold sintA unzig; rw [if_neg (by omega), hv, Int.toNat_natCast, if_pos (by omega)]
      rfl
    · have e : IntKind.i64.wrap (IntKind.u64.wrap ((v : Int) / (2 : Int))) = ((v / 2 : Nat) : Int) := by
        rw [wrapi64, wrapu64]; omega
      rw [e]
      unfold sintA unzig; rw [if_neg (by omega), hv, Int.toNat_natCast, if_neg (by omega)]
      rfl
theorem mapM_byteL : ∀ l : List UInt8, List.mapM byteOf (bytesL l) = some l
  | [] => rfl
  | c :: l => by
    have h := mapM_byteL l
    have hc := c.toNat_lt
    simp only [bytesL, List.map_cons, List.mapM_cons] at h ⊢
    rw [h]
    simp [byteOf]
theorem uintA_ok {bs : List UInt8} {at_ : Int} (h : (uintA bs at_).2.2 = 0) : ∃ a v m : Nat, at_ = a ∧ a ≤ bs.length ∧ uintP 10 (bs.drop a) = .ok (v, m) ∧ uintA bs at_ = ((v : Int), (a : Int) + m, 0) ∧ a + m ≤ bs.length := by
  have h' := h
  unfold uintA at h
  split at h
  · cases h
  · rename_i hb
    refine ⟨at_.toNat, ?_⟩
    split at h
    · rename_i x hx
      exfalso
      simp only at h
      subst h
      have : ∀ (f : Nat) (l : List UInt8), uintP f l ≠ .error 0 := by
        intro f
        induction f with
        | zero => intro l h; simp [uintP] at h
        | succ f ih =>
          intro l h
          cases l with
          | nil => simp [uintP] at h
          | cons c t =>
            rw [uintP] at h
            split at h
            · split at h
              · cases h
              · cases h
            · cases hr : uintP f t with
              | error y => rw [hr] at h; simp only [Except.error.injEq] at h; subst h; exact ih t hr
              | ok vm => rw [hr] at h; cases h
      exact this _ _ hx
    · rename_i v m hx
      obtain ⟨_, _, _, h4⟩ := uintP_bound _ _ _ _ hx
      rw [List.length_drop] at h4
      refine ⟨v, m, by omega, by omega, hx, ?_, by omega⟩
      unfold uintA
      rw [if_neg hb, hx]
      simp only [Prod.mk.injEq, true_and, and_true]
      omega
theorem p37 (m at_ : Int) (bs : List UInt8) (hb : strOk bs) : PureOk PZ (GZ m) XO (tbl [(67, s67)]) (itbl []) nAn [] 37 [bytesA bs, .int .i64 at_] (rText (textA bs at_), []) := by
  have hb' : bs.length ≤ 1000000 := hb
  constructor
  rw [w37, tbl_hit]
  unfold s67
  rw [sRd_at hb]
  obtain ⟨h0, h1⟩ := uintA_bound (bs := bs) (at_ := at_)
  refine ⟨_, _, _, callSome rfl, ?_, ?_⟩
  all_goals simp only [bne_iff_ne, bne_eq_false_iff_eq, ne_eq, decide_eq_true_eq, decide_eq_false_iff_not, gt_iff_lt, bytesL_length]
  · intro h
    refine ⟨?_⟩
    unfold textA
    unfold uintA at h ⊢
    by_cases hat : at_ < 0 ∨ (bs.length : Int) < at_
    · rw [if_pos hat, if_pos hat]; rfl
    · rw [if_neg hat] at h
      rw [if_neg hat, if_neg hat]
      unfold Z05.textR
      cases hu : uintP 10 (bs.drop at_.toNat) with
      | error x => rfl
      | ok vm => rw [hu] at h; exact absurd rfl h
  · intro h
    obtain ⟨a, v, q, rfl, ha, hu, he, hq⟩ := uintA_ok h
    rw [he]
    have hv : (v : Int) < 18446744073709551616 := by rw [he] at h1; exact h1
    have e1 : IntKind.u64.wrap (IntKind.i64.wrap ((bs.length : Int) - ((a : Int) + q))) = (bs.length : Int) - (a + q) := by
      rw [wrap64_in (by omega) (by omega), wrapu64]; omega
    simp only [e1]
    have ht : textA bs a = if bs.length < a + q + v then ([], 0, 41) else ((bs.drop (a + q)).take v, ((a + q + v : Nat) : Int), 0) := by
      unfold textA
      rw [if_neg (by omega), Int.toNat_natCast]
      unfold Z05.textR
      rw [hu]
      by_cases hlt : bs.length < a + q + v
      · simp only [if_pos hlt]
      · simp only [if_neg hlt]
    refine ⟨fun h2 => ⟨?_⟩, fun h2 => ?_⟩
    · rw [ht, if_pos (by omega)]; rfl
    · have e2 : IntKind.i64.wrap ((a : Int) + q + IntKind.i64.wrap (v : Int)) = ((a + q + v : Nat) : Int) := by
        rw [wrap64_in (n := (v : Int)) (by omega) (by omega), wrap64_in (by omega) (by omega)]; omega
      rw [e2]
      have e3 : List.drop ((a : Int) + (q : Int)).toNat (List.take (((a + q + v : Nat) : Int)).toNat (bytesL bs)) = bytesL ((bs.drop (a + q)).take v) := by
        rw [show ((a : Int) + (q : Int)).toNat = a + q by omega, Int.toNat_natCast]
        simp only [bytesL, List.map_take, List.map_drop]
        rw [List.drop_take]
        congr 1
        omega
      rw [e3]
      refine ⟨by omega, by omega, by omega, .inl trivial, .inl trivial, _, mapM_byteL _, ⟨?_⟩⟩
      rw [ht, if_neg (by omega)]; rfl
end Go.Abs

namespace Go.Abs
open Go.Proofs Go.Wire
def hornL : List UInt8 → Nat
  | [] => 0
  | c :: l => hornL l * 128 + c.toNat % 128
def bigB (c : UInt8) : Bool := decide (128 ≤ c.toNat)
def fewN (bs : List UInt8) (a : Nat) : Nat := min (bs.length - a) 10
def atB (bs : List UInt8) (i : Nat) : Nat := (bs.getD i 0).toNat
structure E67 where
  e : Int
  i : Int
structure I67 (bs : List UInt8) (a : Nat) (x : E67) : Prop where
  i0 : -1 ≤ x.i
  i1 : x.i < fewN bs a
  c : (x.e = -1 ∧ ∀ j : Nat, x.i < j → j < fewN bs a → 128 ≤ atB bs (a + j)) ∨ (x.i < x.e ∧ x.e < fewN bs a ∧ atB bs (a + x.e.toNat) < 128 ∧ ∀ j : Nat, x.i < j → j < x.e → 128 ≤ atB bs (a + j))
structure N67 where
  e : Nat
  n : Nat
  i : Int
structure J67 (bs : List UInt8) (a : Nat) (x : N67) : Prop where
  e : x.e < fewN bs a
  l : atB bs (a + x.e) < 128
  b : ∀ j : Nat, j < x.e → 128 ≤ atB bs (a + j)
  g : x.e = 9 → atB bs (a + 9) ≤ 1
  i0 : -1 ≤ x.i
  i1 : x.i ≤ x.e
  n : x.n = hornL (((bs.drop a).take (x.e + 1)).drop (x.i + 1).toNat)
def a67 (bs : List UInt8) (at_ : Int) : Anns := ⟨fun q => match q with
  | 7 => some { α := E67, slots := [0, 1, 7, 9, 10], nb := 0, vals := fun x => [bytesA bs, .int .i64 at_, .int .i64 (leftI bs at_), .int .i64 x.e, .int .i64 x.i], sS := fun _ => ⟨[], []⟩, I := I67 bs at_.toNat, μ := fun x => (x.i + 1).toNat }
  | 17 => some { α := N67, slots := [0, 1, 9, 11, 12], nb := 0, vals := fun x => [bytesA bs, .int .i64 at_, .int .i64 x.e, .int .u64 x.n, .int .i64 x.i], sS := fun _ => ⟨[], []⟩, I := J67 bs at_.toNat, μ := fun x => (x.i + 1).toNat }
  | 1000013 => some { α := E67, slots := [0, 1, 9], nb := 0, vals := fun x => [bytesA bs, .int .i64 at_, .int .i64 x.e], sS := fun _ => ⟨[], []⟩, I := fun x => I67 bs at_.toNat x ∧ x.i = -1 ∧ (x.e < 0 → 10 ≤ leftI bs at_), μ := fun _ => 0 }
  | 1000015 => some { α := Nat, slots := [0, 1, 9], nb := 0, vals := fun e => [bytesA bs, .int .i64 at_, .int .i64 e], sS := fun _ => ⟨[], []⟩, I := fun e => J67 bs at_.toNat ⟨e, 0, e⟩ ∧ (0 < e → atB bs (at_.toNat + e) ≠ 0), μ := fun _ => 0 }
  | _ => none, nA⟩
structure IX (bs : List UInt8) (at_ : Int) (x : V3 × Int × Int) : Prop where
  e : x.2.2 = (readX bs at_).2.2
  o : x.2.2 = 0 → x = readX bs at_
def vC (x : V3) : List AV := [.int .i64 x.k, .int .i64 x.n, .str x.s]
def a16 (bs : List UInt8) (at_ : Int) : Anns := ⟨fun q => match q with
  | 1000023 => some { α := V3 × Int × Int, slots := [4, 5, 6], nb := 1, vals := fun x => [.ptr 0 0, .int .i64 x.2.1, .int .i64 x.2.2], sS := fun x => ⟨[some (vC x.1)], []⟩, I := IX bs at_, μ := fun _ => 0 }
  | _ => none, nA⟩
def a17 (bs : List UInt8) (at_ : Int) : Anns := ⟨fun q => match q with
  | 1000025 => some { α := V3 × Int × Int, slots := [4, 8, 9, 10], nb := 2, vals := fun x => [.ptr 0 0, .ptr 1 0, .int .i64 x.2.1, .int .i64 x.2.2], sS := fun x => ⟨[some [.int .i64 0, .int .i64 0, .str []], some (vC x.1)], []⟩, I := IX bs at_, μ := fun _ => 0 }
  | _ => none, nA⟩
end Go.Abs

namespace Go.Abs
open Go.Proofs
theorem w67 (m at_ : Int) (bs : List UInt8) (r : AV) : (pureW PZ (GZ m) XO (tbl [(35, s35)]) (itbl []) (a67 bs at_) [] 67 [bytesA bs, .int .i64 at_] (r, [])) =
(∃ (n : Int),
  CallIs (tbl [(nat_lit 35, s35)] (nat_lit 35) [AV.sl (nat_lit 1) (bytesL bs) Own.no, AV.int IntKind.i64 at_]) (AV.int IntKind.i64 n) [] ∧
    (decide (n < (0 : Int)) = true → RetIs (AV.tup [AV.int IntKind.u64 (0 : Int), AV.int IntKind.i64 (0 : Int), AV.int IntKind.i64 (1 : Int)]) [] (r, [])) ∧
      (decide (n < (0 : Int)) = false →
        (∃ (y : E67),
 ValsAre
 [AV.sl (nat_lit 1) (bytesL bs) Own.no, AV.int IntKind.i64 at_, AV.int IntKind.i64 n, AV.int IntKind.i64 (-1 : Int),
 AV.int IntKind.i64 (IntKind.i64.wrap (min n (10 : Int) - (1 : Int)))]
 [AV.sl (nat_lit 1) (bytesL bs) Own.no, AV.int IntKind.i64 at_, AV.int IntKind.i64 (leftI bs at_), AV.int IntKind.i64 y.e,
 AV.int IntKind.i64 y.i] ∧
 StIs { boxes := [], live := [] } { boxes := [], live := [] } ∧ I67 bs at_.toNat y ∧ True) ∧
 ∀ (x : E67),
 I67 bs at_.toNat x →
 (decide (x.i ≥ (0 : Int)) = true →
 ((0 : Int) ≤ IntKind.i64.wrap (at_ + x.i) ∧ IntKind.i64.wrap (at_ + x.i) < (↑(bytesL bs).length : Int)) ∧
 ∃ (n : Int),
 takeAt PZ (nat_lit 5) (bytesL bs) (IntKind.i64.wrap (at_ + x.i)).toNat (nat_lit 0) = some (AV.int IntKind.u8 n) ∧
 (decide (n < (128 : Int)) = true →
 ∃ (y : E67),
 ValsAre
 [AV.sl (nat_lit 1) (bytesL bs) Own.no, AV.int IntKind.i64 at_, AV.int IntKind.i64 (leftI bs at_), AV.int IntKind.i64 x.i,
 AV.int IntKind.i64 (IntKind.i64.wrap (x.i - (1 : Int)))]
 [AV.sl (nat_lit 1) (bytesL bs) Own.no, AV.int IntKind.i64 at_, AV.int IntKind.i64 (leftI bs at_), AV.int IntKind.i64 y.e,
 AV.int IntKind.i64 y.i] ∧
 StIs { boxes := [], live := [] } { boxes := [], live := [] } ∧
 I67 bs at_.toNat y ∧ (y.i + (1 : Int)).toNat < (x.i + (1 : Int)).toNat) ∧
 (decide (n < (128 : Int)) = false →
 ∃ (y : E67),
 ValsAre
 [AV.sl (nat_lit 1) (bytesL bs) Own.no, AV.int IntKind.i64 at_, AV.int IntKind.i64 (leftI bs at_), AV.int IntKind.i64 x.e,
 AV.int IntKind.i64 (IntKind.i64.wrap (x.i - (1 : Int)))]
 [AV.sl (nat_lit 1) (bytesL bs) Own.no, AV.int IntKind.i64 at_, AV.int IntKind.i64 (leftI bs at_), AV.int IntKind.i64 y.e,
 AV.int IntKind.i64 y.i] ∧
 StIs { boxes := [], live := [] } { boxes := [], live := [] } ∧
 I67 bs at_.toNat y ∧ (y.i + (1 : Int)).toNat < (x.i + (1 : Int)).toNat)) ∧
 (decide (x.i ≥ (0 : Int)) = false →
 ((decide (x.e < (0 : Int)) = true →
 (decide (leftI bs at_ < (10 : Int)) = true →
 RetIs (AV.tup [AV.int IntKind.u64 (0 : Int), AV.int IntKind.i64 (0 : Int), AV.int IntKind.i64 (41 : Int)]) [] (r, [])) ∧
 (decide (leftI bs at_ < (10 : Int)) = false →
 ∃ (y : E67),
 ValsAre [AV.sl (nat_lit 1) (bytesL bs) Own.no, AV.int IntKind.i64 at_, AV.int IntKind.i64 x.e]
 [AV.sl (nat_lit 1) (bytesL bs) Own.no, AV.int IntKind.i64 at_, AV.int IntKind.i64 y.e] ∧
 StIs { boxes := [], live := [] } { boxes := [], live := [] } ∧
 (I67 bs at_.toNat y ∧ y.i = (-1 : Int) ∧ (y.e < (0 : Int) → (10 : Int) ≤ leftI bs at_)) ∧ True)) ∧
 (decide (x.e < (0 : Int)) = false →
 ∃ (y : E67),
 ValsAre [AV.sl (nat_lit 1) (bytesL bs) Own.no, AV.int IntKind.i64 at_, AV.int IntKind.i64 x.e]
 [AV.sl (nat_lit 1) (bytesL bs) Own.no, AV.int IntKind.i64 at_, AV.int IntKind.i64 y.e] ∧
 StIs { boxes := [], live := [] } { boxes := [], live := [] } ∧
 (I67 bs at_.toNat y ∧ y.i = (-1 : Int) ∧ (y.e < (0 : Int) → (10 : Int) ≤ leftI bs at_)) ∧ True)) ∧
 ∀ (x : E67),
 I67 bs at_.toNat x ∧ x.i = (-1 : Int) ∧ (x.e < (0 : Int) → (10 : Int) ≤ leftI bs at_) →
 True →
 ((decide (x.e < (0 : Int)) = true →
 RetIs (AV.tup [AV.int IntKind.u64 (0 : Int), AV.int IntKind.i64 (0 : Int), AV.int IntKind.i64 (3 : Int)]) [] (r, [])) ∧
 (decide (x.e < (0 : Int)) = false →
 ((x.e == (9 : Int)) = true →
 ((0 : Int) ≤ IntKind.i64.wrap (at_ + (9 : Int)) ∧ IntKind.i64.wrap (at_ + (9 : Int)) < (↑(bytesL bs).length : Int)) ∧
 ∃ (n : Int),
 takeAt PZ (nat_lit 5) (bytesL bs) (IntKind.i64.wrap (at_ + (9 : Int))).toNat (nat_lit 0) = some (AV.int IntKind.u8 n) ∧
 (decide (n > (1 : Int)) = true →
 RetIs (AV.tup [AV.int IntKind.u64 (0 : Int), AV.int IntKind.i64 (0 : Int), AV.int IntKind.i64 (3 : Int)]) []
 (r, [])) ∧
 (decide (n > (1 : Int)) = false →
 (decide (x.e > (0 : Int)) = true →
 ((0 : Int) ≤ IntKind.i64.wrap (at_ + x.e) ∧ IntKind.i64.wrap (at_ + x.e) < (↑(bytesL bs).length : Int)) ∧
 ∃ (n : Int),
 takeAt PZ (nat_lit 5) (bytesL bs) (IntKind.i64.wrap (at_ + x.e)).toNat (nat_lit 0) =
 some (AV.int IntKind.u8 n) ∧
 ((n == (0 : Int)) = true →
 RetIs
 (AV.tup
 [AV.int IntKind.u64 (0 : Int), AV.int IntKind.i64 (0 : Int), AV.int IntKind.i64 (3 : Int)])
 [] (r, [])) ∧
 ((n == (0 : Int)) = false →
 ∃ (y : Nat),
 ValsAre [AV.sl (nat_lit 1) (bytesL bs) Own.no, AV.int IntKind.i64 at_, AV.int IntKind.i64 x.e]
 [AV.sl (nat_lit 1) (bytesL bs) Own.no, AV.int IntKind.i64 at_,
 AV.int IntKind.i64 (↑y : Int)] ∧
 StIs { boxes := [], live := [] } { boxes := [], live := [] } ∧
 (J67 bs at_.toNat { e := y, n := (0 : Nat), i := (↑y : Int) } ∧
 ((0 : Nat) < y → atB bs (at_.toNat + y) ≠ (0 : Nat))) ∧
 True)) ∧
 (decide (x.e > (0 : Int)) = false →
 ∃ (y : Nat),
 ValsAre [AV.sl (nat_lit 1) (bytesL bs) Own.no, AV.int IntKind.i64 at_, AV.int IntKind.i64 x.e]
 [AV.sl (nat_lit 1) (bytesL bs) Own.no, AV.int IntKind.i64 at_, AV.int IntKind.i64 (↑y : Int)] ∧
 StIs { boxes := [], live := [] } { boxes := [], live := [] } ∧
 (J67 bs at_.toNat { e := y, n := (0 : Nat), i := (↑y : Int) } ∧
 ((0 : Nat) < y → atB bs (at_.toNat + y) ≠ (0 : Nat))) ∧
 True))) ∧
 ((x.e == (9 : Int)) = false →
 (decide (x.e > (0 : Int)) = true →
 ((0 : Int) ≤ IntKind.i64.wrap (at_ + x.e) ∧ IntKind.i64.wrap (at_ + x.e) < (↑(bytesL bs).length : Int)) ∧
 ∃ (n : Int),
 takeAt PZ (nat_lit 5) (bytesL bs) (IntKind.i64.wrap (at_ + x.e)).toNat (nat_lit 0) = some (AV.int IntKind.u8 n) ∧
 ((n == (0 : Int)) = true →
 RetIs (AV.tup [AV.int IntKind.u64 (0 : Int), AV.int IntKind.i64 (0 : Int), AV.int IntKind.i64 (3 : Int)]) []
 (r, [])) ∧
 ((n == (0 : Int)) = false →
 ∃ (y : Nat),
 ValsAre [AV.sl (nat_lit 1) (bytesL bs) Own.no, AV.int IntKind.i64 at_, AV.int IntKind.i64 x.e]
 [AV.sl (nat_lit 1) (bytesL bs) Own.no, AV.int IntKind.i64 at_, AV.int IntKind.i64 (↑y : Int)] ∧
 StIs { boxes := [], live := [] } { boxes := [], live := [] } ∧
 (J67 bs at_.toNat { e := y, n := (0 : Nat), i := (↑y : Int) } ∧
 ((0 : Nat) < y → atB bs (at_.toNat + y) ≠ (0 : Nat))) ∧
 True)) ∧
 (decide (x.e > (0 : Int)) = false →
 ∃ (y : Nat),
 ValsAre [AV.sl (nat_lit 1) (bytesL bs) Own.no, AV.int IntKind.i64 at_, AV.int IntKind.i64 x.e]
 [AV.sl (nat_lit 1) (bytesL bs) Own.no, AV.int IntKind.i64 at_, AV.int IntKind.i64 (↑y : Int)] ∧
 StIs { boxes := [], live := [] } { boxes := [], live := [] } ∧
 (J67 bs at_.toNat { e := y, n := (0 : Nat), i := (↑y : Int) } ∧
 ((0 : Nat) < y → atB bs (at_.toNat + y) ≠ (0 : Nat))) ∧
 True)))) ∧
 ∀ (x : Nat),
 J67 bs at_.toNat { e := x, n := (0 : Nat), i := (↑x : Int) } ∧ ((0 : Nat) < x → atB bs (at_.toNat + x) ≠ (0 : Nat)) →
 True →
 (∃ (y : N67),
 ValsAre
 [AV.sl (nat_lit 1) (bytesL bs) Own.no, AV.int IntKind.i64 at_, AV.int IntKind.i64 (↑x : Int),
 AV.int IntKind.u64 (0 : Int), AV.int IntKind.i64 (↑x : Int)]
 [AV.sl (nat_lit 1) (bytesL bs) Own.no, AV.int IntKind.i64 at_, AV.int IntKind.i64 (↑y.e : Int),
 AV.int IntKind.u64 (↑y.n : Int), AV.int IntKind.i64 y.i] ∧
 StIs { boxes := [], live := [] } { boxes := [], live := [] } ∧ J67 bs at_.toNat y ∧ True) ∧
 ∀ (x : N67),
 J67 bs at_.toNat x →
 (decide (x.i ≥ (0 : Int)) = true →
 ((0 : Int) ≤ IntKind.i64.wrap (at_ + x.i) ∧ IntKind.i64.wrap (at_ + x.i) < (↑(bytesL bs).length : Int)) ∧
 ∃ (n : Int),
 takeAt PZ (nat_lit 5) (bytesL bs) (IntKind.i64.wrap (at_ + x.i)).toNat (nat_lit 0) =
 some (AV.int IntKind.u8 n) ∧
 (128 : Int) ≠ (0 : Int) ∧
 ∃ (y : N67),
 ValsAre
 [AV.sl (nat_lit 1) (bytesL bs) Own.no, AV.int IntKind.i64 at_, AV.int IntKind.i64 (↑x.e : Int),
 AV.int IntKind.u64
 (IntKind.u64.wrap
 (IntKind.u64.wrap ((↑x.n : Int) * (128 : Int)) + IntKind.u64.wrap (n.tmod (128 : Int)))),
 AV.int IntKind.i64 (IntKind.i64.wrap (x.i - (1 : Int)))]
 [AV.sl (nat_lit 1) (bytesL bs) Own.no, AV.int IntKind.i64 at_, AV.int IntKind.i64 (↑y.e : Int),
 AV.int IntKind.u64 (↑y.n : Int), AV.int IntKind.i64 y.i] ∧
 StIs { boxes := [], live := [] } { boxes := [], live := [] } ∧
 J67 bs at_.toNat y ∧ (y.i + (1 : Int)).toNat < (x.i + (1 : Int)).toNat) ∧
 (decide (x.i ≥ (0 : Int)) = false →
 RetIs
 (AV.tup
 [AV.int IntKind.u64 (↑x.n : Int),
 AV.int IntKind.i64 (IntKind.i64.wrap (IntKind.i64.wrap (at_ + (↑x.e : Int)) + (1 : Int))),
 AV.int IntKind.i64 (0 : Int)])
 [] (r, []))))) := by kernel_rfl
theorem w16 (m at_ : Int) (bs : List UInt8) (r : AV) : (pureW PZ (GZ m) XO (tbl [(12, s12), (33, s33), (34, sReadText)]) (itbl []) (a16 bs at_) [] 16 [bytesA bs, .int .i64 at_] (r, [])) =
((decide (at_ < (0 : Int)) = true →
    RetIs (AV.tup [AV.agg [AV.int IntKind.i64 (0 : Int), AV.int IntKind.i64 (0 : Int), AV.str []], AV.int IntKind.i64 (0 : Int), AV.int IntKind.i64 (1 : Int)])
      [] (r, [])) ∧
  (decide (at_ < (0 : Int)) = false →
    (decide (at_ > (↑(bytesL bs).length : Int)) = true →
        RetIs
 (AV.tup [AV.agg [AV.int IntKind.i64 (0 : Int), AV.int IntKind.i64 (0 : Int), AV.str []], AV.int IntKind.i64 (0 : Int), AV.int IntKind.i64 (1 : Int)])
 [] (r, [])) ∧
      (decide (at_ > (↑(bytesL bs).length : Int)) = false →
        ((at_ == (↑(bytesL bs).length : Int)) = true →
 RetIs
 (AV.tup
 [AV.agg [AV.int IntKind.i64 (0 : Int), AV.int IntKind.i64 (0 : Int), AV.str []], AV.int IntKind.i64 (0 : Int), AV.int IntKind.i64 (41 : Int)])
 [] (r, [])) ∧
 ((at_ == (↑(bytesL bs).length : Int)) = false →
 ((0 : Int) ≤ at_ ∧ at_ < (↑(bytesL bs).length : Int)) ∧
 ∃ (n : Int),
 takeAt PZ (nat_lit 5) (bytesL bs) at_.toNat (nat_lit 0) = some (AV.int IntKind.u8 n) ∧
 (((IntKind.i64.wrap n == (0 : Int)) = true →
 ∃ (y : V3 × Int × Int),
 ValsAre [AV.ptr (nat_lit 0) (nat_lit 0), AV.int IntKind.i64 (IntKind.i64.wrap (at_ + (1 : Int))), AV.int IntKind.i64 (0 : Int)]
 [AV.ptr (nat_lit 0) (nat_lit 0), AV.int IntKind.i64 y.snd.fst, AV.int IntKind.i64 y.snd.snd] ∧
 StIs { boxes := [some [AV.int IntKind.i64 (IntKind.i64.wrap n), AV.int IntKind.i64 (0 : Int), AV.str []]], live := [] }
 { boxes := [some [AV.int IntKind.i64 y.fst.k, AV.int IntKind.i64 y.fst.n, AV.str y.fst.s]], live := [] } ∧
 IX bs at_ y ∧ True) ∧
 ((IntKind.i64.wrap n == (0 : Int)) = false →
 ((IntKind.i64.wrap n == (1 : Int)) = true →
 ((IntKind.i64.wrap (at_ + (1 : Int)) == (↑(bytesL bs).length : Int)) = true →
 ∃ (y : V3 × Int × Int),
 ValsAre
 [AV.ptr (nat_lit 0) (nat_lit 0), AV.int IntKind.i64 (IntKind.i64.wrap (IntKind.i64.wrap (at_ + (1 : Int)) + (1 : Int))),
 AV.int IntKind.i64 (41 : Int)]
 [AV.ptr (nat_lit 0) (nat_lit 0), AV.int IntKind.i64 y.snd.fst, AV.int IntKind.i64 y.snd.snd] ∧
 StIs { boxes := [some [AV.int IntKind.i64 (IntKind.i64.wrap n), AV.int IntKind.i64 (0 : Int), AV.str []]], live := [] }
 { boxes := [some [AV.int IntKind.i64 y.fst.k, AV.int IntKind.i64 y.fst.n, AV.str y.fst.s]], live := [] } ∧
 IX bs at_ y ∧ True) ∧
 ((IntKind.i64.wrap (at_ + (1 : Int)) == (↑(bytesL bs).length : Int)) = false →
 ((0 : Int) ≤ IntKind.i64.wrap (at_ + (1 : Int)) ∧ IntKind.i64.wrap (at_ + (1 : Int)) < (↑(bytesL bs).length : Int)) ∧
 ∃ (n_1 : Int),
 takeAt PZ (nat_lit 5) (bytesL bs) (IntKind.i64.wrap (at_ + (1 : Int))).toNat (nat_lit 0) = some (AV.int IntKind.u8 n_1) ∧
 (decide (IntKind.i64.wrap n_1 > (1 : Int)) = true →
 ∃ (y : V3 × Int × Int),
 ValsAre
 [AV.ptr (nat_lit 0) (nat_lit 0),
 AV.int IntKind.i64 (IntKind.i64.wrap (IntKind.i64.wrap (at_ + (1 : Int)) + (1 : Int))),
 AV.int IntKind.i64 (3 : Int)]
 [AV.ptr (nat_lit 0) (nat_lit 0), AV.int IntKind.i64 y.snd.fst, AV.int IntKind.i64 y.snd.snd] ∧
 StIs
 { boxes := [some [AV.int IntKind.i64 (IntKind.i64.wrap n), AV.int IntKind.i64 (IntKind.i64.wrap n_1), AV.str []]], live := [] }
 { boxes := [some [AV.int IntKind.i64 y.fst.k, AV.int IntKind.i64 y.fst.n, AV.str y.fst.s]], live := [] } ∧
 IX bs at_ y ∧ True) ∧
 (decide (IntKind.i64.wrap n_1 > (1 : Int)) = false →
 ∃ (y : V3 × Int × Int),
 ValsAre
 [AV.ptr (nat_lit 0) (nat_lit 0),
 AV.int IntKind.i64 (IntKind.i64.wrap (IntKind.i64.wrap (at_ + (1 : Int)) + (1 : Int))),
 AV.int IntKind.i64 (0 : Int)]
 [AV.ptr (nat_lit 0) (nat_lit 0), AV.int IntKind.i64 y.snd.fst, AV.int IntKind.i64 y.snd.snd] ∧
 StIs
 { boxes := [some [AV.int IntKind.i64 (IntKind.i64.wrap n), AV.int IntKind.i64 (IntKind.i64.wrap n_1), AV.str []]], live := [] }
 { boxes := [some [AV.int IntKind.i64 y.fst.k, AV.int IntKind.i64 y.fst.n, AV.str y.fst.s]], live := [] } ∧
 IX bs at_ y ∧ True))) ∧
 ((IntKind.i64.wrap n == (1 : Int)) = false →
 ((IntKind.i64.wrap n == (2 : Int)) = true →
 ∃ (n_1 : Int),
 ∃ (n_2 : Int),
 ∃ (n_3 : Int),
 CallIs
 (tbl [(nat_lit 12, s12), (nat_lit 33, s33), (nat_lit 34, sReadText)] (nat_lit 33)
 [AV.sl (nat_lit 1) (bytesL bs) Own.no, AV.int IntKind.i64 (IntKind.i64.wrap (at_ + (1 : Int)))])
 (AV.tup [AV.int IntKind.i64 n_1, AV.int IntKind.i64 n_2, AV.int IntKind.i64 n_3]) [] ∧
 ∃ (y : V3 × Int × Int),
 ValsAre [AV.ptr (nat_lit 0) (nat_lit 0), AV.int IntKind.i64 n_2, AV.int IntKind.i64 n_3]
 [AV.ptr (nat_lit 0) (nat_lit 0), AV.int IntKind.i64 y.snd.fst, AV.int IntKind.i64 y.snd.snd] ∧
 StIs { boxes := [some [AV.int IntKind.i64 (IntKind.i64.wrap n), AV.int IntKind.i64 n_1, AV.str []]], live := [] }
 { boxes := [some [AV.int IntKind.i64 y.fst.k, AV.int IntKind.i64 y.fst.n, AV.str y.fst.s]], live := [] } ∧
 IX bs at_ y ∧ True) ∧
 ((IntKind.i64.wrap n == (2 : Int)) = false →
 ((IntKind.i64.wrap n == (3 : Int)) = true →
 ∃ (n_1 : Int),
 ∃ (n_2 : Int),
 ∃ (n_3 : Int),
 CallIs
 (tbl [(nat_lit 12, s12), (nat_lit 33, s33), (nat_lit 34, sReadText)] (nat_lit 33)
 [AV.sl (nat_lit 1) (bytesL bs) Own.no, AV.int IntKind.i64 (IntKind.i64.wrap (at_ + (1 : Int)))])
 (AV.tup [AV.int IntKind.i64 n_1, AV.int IntKind.i64 n_2, AV.int IntKind.i64 n_3]) [] ∧
 ∃ (y : V3 × Int × Int),
 ValsAre [AV.ptr (nat_lit 0) (nat_lit 0), AV.int IntKind.i64 n_2, AV.int IntKind.i64 n_3]
 [AV.ptr (nat_lit 0) (nat_lit 0), AV.int IntKind.i64 y.snd.fst, AV.int IntKind.i64 y.snd.snd] ∧
 StIs
 { boxes := [some [AV.int IntKind.i64 (IntKind.i64.wrap n), AV.int IntKind.i64 n_1, AV.str []]], live := [] }
 { boxes := [some [AV.int IntKind.i64 y.fst.k, AV.int IntKind.i64 y.fst.n, AV.str y.fst.s]], live := [] } ∧
 IX bs at_ y ∧ True) ∧
 ((IntKind.i64.wrap n == (3 : Int)) = false →
 ((IntKind.i64.wrap n == (4 : Int)) = true →
 ∃ (s : List UInt8),
 ∃ (n_1 : Int),
 ∃ (n_2 : Int),
 CallIs
 (tbl [(nat_lit 12, s12), (nat_lit 33, s33), (nat_lit 34, sReadText)] (nat_lit 34)
 [AV.sl (nat_lit 1) (bytesL bs) Own.no, AV.int IntKind.i64 (IntKind.i64.wrap (at_ + (1 : Int)))])
 (AV.tup [AV.str s, AV.int IntKind.i64 n_1, AV.int IntKind.i64 n_2]) [] ∧
 ∃ (y : V3 × Int × Int),
 ValsAre [AV.ptr (nat_lit 0) (nat_lit 0), AV.int IntKind.i64 n_1, AV.int IntKind.i64 n_2]
 [AV.ptr (nat_lit 0) (nat_lit 0), AV.int IntKind.i64 y.snd.fst, AV.int IntKind.i64 y.snd.snd] ∧
 StIs
 { boxes := [some [AV.int IntKind.i64 (IntKind.i64.wrap n), AV.int IntKind.i64 (0 : Int), AV.str s]], live := [] }
 { boxes := [some [AV.int IntKind.i64 y.fst.k, AV.int IntKind.i64 y.fst.n, AV.str y.fst.s]], live := [] } ∧
 IX bs at_ y ∧ True) ∧
 ((IntKind.i64.wrap n == (4 : Int)) = false →
 ((IntKind.i64.wrap n == (5 : Int)) = true →
 ∃ (s : List UInt8),
 ∃ (n_1 : Int),
 ∃ (n_2 : Int),
 CallIs
 (tbl [(nat_lit 12, s12), (nat_lit 33, s33), (nat_lit 34, sReadText)] (nat_lit 34)
 [AV.sl (nat_lit 1) (bytesL bs) Own.no, AV.int IntKind.i64 (IntKind.i64.wrap (at_ + (1 : Int)))])
 (AV.tup [AV.str s, AV.int IntKind.i64 n_1, AV.int IntKind.i64 n_2]) [] ∧
 ∃ (y : V3 × Int × Int),
 ValsAre [AV.ptr (nat_lit 0) (nat_lit 0), AV.int IntKind.i64 n_1, AV.int IntKind.i64 n_2]
 [AV.ptr (nat_lit 0) (nat_lit 0), AV.int IntKind.i64 y.snd.fst, AV.int IntKind.i64 y.snd.snd] ∧
 StIs
 { boxes := [some [AV.int IntKind.i64 (IntKind.i64.wrap n), AV.int IntKind.i64 (0 : Int), AV.str s]], live := [] }
 { boxes := [some [AV.int IntKind.i64 y.fst.k, AV.int IntKind.i64 y.fst.n, AV.str y.fst.s]], live := [] } ∧
 IX bs at_ y ∧ True) ∧
 ((IntKind.i64.wrap n == (5 : Int)) = false →
 ∃ (y : V3 × Int × Int),
 ValsAre
 [AV.ptr (nat_lit 0) (nat_lit 0), AV.int IntKind.i64 (IntKind.i64.wrap (at_ + (1 : Int))),
 AV.int IntKind.i64 (3 : Int)]
 [AV.ptr (nat_lit 0) (nat_lit 0), AV.int IntKind.i64 y.snd.fst, AV.int IntKind.i64 y.snd.snd] ∧
 StIs
 { boxes := [some [AV.int IntKind.i64 (IntKind.i64.wrap n), AV.int IntKind.i64 (0 : Int), AV.str []]], live := [] }
 { boxes := [some [AV.int IntKind.i64 y.fst.k, AV.int IntKind.i64 y.fst.n, AV.str y.fst.s]], live := [] } ∧
 IX bs at_ y ∧ True))))))) ∧
 ∀ (x : V3 × Int × Int),
 IX bs at_ x →
 True →
 ((x.snd.snd == (0 : Int)) = true →
 ∃ (n : Int),
 CallIs
 (tbl [(nat_lit 12, s12), (nat_lit 33, s33), (nat_lit 34, sReadText)] (nat_lit 12)
 [AV.agg [AV.int IntKind.i64 x.fst.k, AV.int IntKind.i64 x.fst.n, AV.str x.fst.s]])
 (AV.int IntKind.i64 n) [] ∧
 ((n != (0 : Int)) = true →
 RetIs
 (AV.tup
 [AV.agg [AV.int IntKind.i64 (0 : Int), AV.int IntKind.i64 (0 : Int), AV.str []], AV.int IntKind.i64 (0 : Int),
 AV.int IntKind.i64 n])
 [] (r, [])) ∧
 ((n != (0 : Int)) = false →
 RetIs
 (AV.tup
 [AV.agg [AV.int IntKind.i64 x.fst.k, AV.int IntKind.i64 x.fst.n, AV.str x.fst.s], AV.int IntKind.i64 x.snd.fst,
 AV.int IntKind.i64 (0 : Int)])
 [] (r, []))) ∧
 ((x.snd.snd == (0 : Int)) = false →
 ((x.snd.snd != (0 : Int)) = true →
 RetIs
 (AV.tup
 [AV.agg [AV.int IntKind.i64 (0 : Int), AV.int IntKind.i64 (0 : Int), AV.str []], AV.int IntKind.i64 (0 : Int),
 AV.int IntKind.i64 x.snd.snd])
 [] (r, [])) ∧
 ((x.snd.snd != (0 : Int)) = false →
 RetIs
 (AV.tup
 [AV.agg [AV.int IntKind.i64 x.fst.k, AV.int IntKind.i64 x.fst.n, AV.str x.fst.s], AV.int IntKind.i64 x.snd.fst,
 AV.int IntKind.i64 (0 : Int)])
 [] (r, []))))))) := by kernel_rfl
theorem w17 (m at_ : Int) (bs : List UInt8) (r : AV) : (pureW PZ (GZ m) XO (tbl [(13, s12), (35, s35), (36, s33), (37, s37)]) (itbl []) (a17 bs at_) [] 17 [bytesA bs, .int .i64 at_] (r, [])) =
(∃ (n : Int),
  CallIs
      (tbl [(nat_lit 13, s12), (nat_lit 35, s35), (nat_lit 36, s33), (nat_lit 37, s37)] (nat_lit 35)
        [AV.sl (nat_lit 1) (bytesL bs) Own.no, AV.int IntKind.i64 at_])
      (AV.int IntKind.i64 n) [] ∧
    (decide (n < (0 : Int)) = true →
        RetIs
 (AV.tup [AV.agg [AV.int IntKind.i64 (0 : Int), AV.int IntKind.i64 (0 : Int), AV.str []], AV.int IntKind.i64 (0 : Int), AV.int IntKind.i64 (1 : Int)])
 [] (r, [])) ∧
      (decide (n < (0 : Int)) = false →
        ((n == (0 : Int)) = true →
 RetIs
 (AV.tup
 [AV.agg [AV.int IntKind.i64 (0 : Int), AV.int IntKind.i64 (0 : Int), AV.str []], AV.int IntKind.i64 (0 : Int), AV.int IntKind.i64 (41 : Int)])
 [] (r, [])) ∧
 ((n == (0 : Int)) = false →
 ((0 : Int) ≤ at_ ∧ at_ < (↑(bytesL bs).length : Int)) ∧
 ∃ (n_1 : Int),
 takeAt PZ (nat_lit 5) (bytesL bs) at_.toNat (nat_lit 0) = some (AV.int IntKind.u8 n_1) ∧
 (((IntKind.i64.wrap n_1 == (0 : Int)) = true →
 ∃ (y : V3 × Int × Int),
 ValsAre
 [AV.ptr (nat_lit 0) (nat_lit 0), AV.ptr (nat_lit 1) (nat_lit 0), AV.int IntKind.i64 (IntKind.i64.wrap (at_ + (1 : Int))),
 AV.int IntKind.i64 (0 : Int)]
 [AV.ptr (nat_lit 0) (nat_lit 0), AV.ptr (nat_lit 1) (nat_lit 0), AV.int IntKind.i64 y.snd.fst, AV.int IntKind.i64 y.snd.snd] ∧
 StIs
 { boxes := [some [AV.int IntKind.i64 (0 : Int), AV.int IntKind.i64 (0 : Int), AV.str []], some [AV.int IntKind.i64 (IntKind.i64.wrap n_1), AV.int IntKind.i64 (0 : Int), AV.str []]], live := [] }
 { boxes := [some [AV.int IntKind.i64 (0 : Int), AV.int IntKind.i64 (0 : Int), AV.str []], some [AV.int IntKind.i64 y.fst.k, AV.int IntKind.i64 y.fst.n, AV.str y.fst.s]], live := [] } ∧
 IX bs at_ y ∧ True) ∧
 ((IntKind.i64.wrap n_1 == (0 : Int)) = false →
 ((IntKind.i64.wrap n_1 == (1 : Int)) = true →
 ((n == (1 : Int)) = true →
 RetIs
 (AV.tup
 [AV.agg [AV.int IntKind.i64 (0 : Int), AV.int IntKind.i64 (0 : Int), AV.str []], AV.int IntKind.i64 (0 : Int),
 AV.int IntKind.i64 (41 : Int)])
 [] (r, [])) ∧
 ((n == (1 : Int)) = false →
 ((0 : Int) ≤ IntKind.i64.wrap (at_ + (1 : Int)) ∧ IntKind.i64.wrap (at_ + (1 : Int)) < (↑(bytesL bs).length : Int)) ∧
 ∃ (n : Int),
 takeAt PZ (nat_lit 5) (bytesL bs) (IntKind.i64.wrap (at_ + (1 : Int))).toNat (nat_lit 0) = some (AV.int IntKind.u8 n) ∧
 (decide (IntKind.i64.wrap n > (1 : Int)) = true →
 ∃ (y : V3 × Int × Int),
 ValsAre
 [AV.ptr (nat_lit 0) (nat_lit 0), AV.ptr (nat_lit 1) (nat_lit 0),
 AV.int IntKind.i64 (IntKind.i64.wrap (IntKind.i64.wrap (at_ + (1 : Int)) + (1 : Int))),
 AV.int IntKind.i64 (3 : Int)]
 [AV.ptr (nat_lit 0) (nat_lit 0), AV.ptr (nat_lit 1) (nat_lit 0), AV.int IntKind.i64 y.snd.fst,
 AV.int IntKind.i64 y.snd.snd] ∧
 StIs
 { boxes := [some [AV.int IntKind.i64 (0 : Int), AV.int IntKind.i64 (0 : Int), AV.str []], some [AV.int IntKind.i64 (IntKind.i64.wrap n_1), AV.int IntKind.i64 (IntKind.i64.wrap n), AV.str []]], live := [] }
 { boxes := [some [AV.int IntKind.i64 (0 : Int), AV.int IntKind.i64 (0 : Int), AV.str []], some [AV.int IntKind.i64 y.fst.k, AV.int IntKind.i64 y.fst.n, AV.str y.fst.s]], live := [] } ∧
 IX bs at_ y ∧ True) ∧
 (decide (IntKind.i64.wrap n > (1 : Int)) = false →
 ∃ (y : V3 × Int × Int),
 ValsAre
 [AV.ptr (nat_lit 0) (nat_lit 0), AV.ptr (nat_lit 1) (nat_lit 0),
 AV.int IntKind.i64 (IntKind.i64.wrap (IntKind.i64.wrap (at_ + (1 : Int)) + (1 : Int))),
 AV.int IntKind.i64 (0 : Int)]
 [AV.ptr (nat_lit 0) (nat_lit 0), AV.ptr (nat_lit 1) (nat_lit 0), AV.int IntKind.i64 y.snd.fst,
 AV.int IntKind.i64 y.snd.snd] ∧
 StIs
 { boxes := [some [AV.int IntKind.i64 (0 : Int), AV.int IntKind.i64 (0 : Int), AV.str []], some [AV.int IntKind.i64 (IntKind.i64.wrap n_1), AV.int IntKind.i64 (IntKind.i64.wrap n), AV.str []]], live := [] }
 { boxes := [some [AV.int IntKind.i64 (0 : Int), AV.int IntKind.i64 (0 : Int), AV.str []], some [AV.int IntKind.i64 y.fst.k, AV.int IntKind.i64 y.fst.n, AV.str y.fst.s]], live := [] } ∧
 IX bs at_ y ∧ True))) ∧
 ((IntKind.i64.wrap n_1 == (1 : Int)) = false →
 ((IntKind.i64.wrap n_1 == (2 : Int)) = true →
 ∃ (n : Int),
 ∃ (n_2 : Int),
 ∃ (n_3 : Int),
 CallIs
 (tbl [(nat_lit 13, s12), (nat_lit 35, s35), (nat_lit 36, s33), (nat_lit 37, s37)] (nat_lit 36)
 [AV.sl (nat_lit 1) (bytesL bs) Own.no, AV.int IntKind.i64 (IntKind.i64.wrap (at_ + (1 : Int)))])
 (AV.tup [AV.int IntKind.i64 n, AV.int IntKind.i64 n_2, AV.int IntKind.i64 n_3]) [] ∧
 ∃ (y : V3 × Int × Int),
 ValsAre
 [AV.ptr (nat_lit 0) (nat_lit 0), AV.ptr (nat_lit 1) (nat_lit 0), AV.int IntKind.i64 n_2, AV.int IntKind.i64 n_3]
 [AV.ptr (nat_lit 0) (nat_lit 0), AV.ptr (nat_lit 1) (nat_lit 0), AV.int IntKind.i64 y.snd.fst,
 AV.int IntKind.i64 y.snd.snd] ∧
 StIs
 { boxes := [some [AV.int IntKind.i64 (0 : Int), AV.int IntKind.i64 (0 : Int), AV.str []], some [AV.int IntKind.i64 (IntKind.i64.wrap n_1), AV.int IntKind.i64 n, AV.str []]], live := [] }
 { boxes := [some [AV.int IntKind.i64 (0 : Int), AV.int IntKind.i64 (0 : Int), AV.str []], some [AV.int IntKind.i64 y.fst.k, AV.int IntKind.i64 y.fst.n, AV.str y.fst.s]], live := [] } ∧
 IX bs at_ y ∧ True) ∧
 ((IntKind.i64.wrap n_1 == (2 : Int)) = false →
 ((IntKind.i64.wrap n_1 == (3 : Int)) = true →
 ∃ (n : Int),
 ∃ (n_2 : Int),
 ∃ (n_3 : Int),
 CallIs
 (tbl [(nat_lit 13, s12), (nat_lit 35, s35), (nat_lit 36, s33), (nat_lit 37, s37)] (nat_lit 36)
 [AV.sl (nat_lit 1) (bytesL bs) Own.no, AV.int IntKind.i64 (IntKind.i64.wrap (at_ + (1 : Int)))])
 (AV.tup [AV.int IntKind.i64 n, AV.int IntKind.i64 n_2, AV.int IntKind.i64 n_3]) [] ∧
 ∃ (y : V3 × Int × Int),
 ValsAre
 [AV.ptr (nat_lit 0) (nat_lit 0), AV.ptr (nat_lit 1) (nat_lit 0), AV.int IntKind.i64 n_2,
 AV.int IntKind.i64 n_3]
 [AV.ptr (nat_lit 0) (nat_lit 0), AV.ptr (nat_lit 1) (nat_lit 0), AV.int IntKind.i64 y.snd.fst,
 AV.int IntKind.i64 y.snd.snd] ∧
 StIs
 { boxes := [some [AV.int IntKind.i64 (0 : Int), AV.int IntKind.i64 (0 : Int), AV.str []], some [AV.int IntKind.i64 (IntKind.i64.wrap n_1), AV.int IntKind.i64 n, AV.str []]], live := [] }
 { boxes := [some [AV.int IntKind.i64 (0 : Int), AV.int IntKind.i64 (0 : Int), AV.str []], some [AV.int IntKind.i64 y.fst.k, AV.int IntKind.i64 y.fst.n, AV.str y.fst.s]], live := [] } ∧
 IX bs at_ y ∧ True) ∧
 ((IntKind.i64.wrap n_1 == (3 : Int)) = false →
 ((IntKind.i64.wrap n_1 == (4 : Int)) = true →
 ∃ (s : List UInt8),
 ∃ (n : Int),
 ∃ (n_2 : Int),
 CallIs
 (tbl [(nat_lit 13, s12), (nat_lit 35, s35), (nat_lit 36, s33), (nat_lit 37, s37)] (nat_lit 37)
 [AV.sl (nat_lit 1) (bytesL bs) Own.no, AV.int IntKind.i64 (IntKind.i64.wrap (at_ + (1 : Int)))])
 (AV.tup [AV.str s, AV.int IntKind.i64 n, AV.int IntKind.i64 n_2]) [] ∧
 ∃ (y : V3 × Int × Int),
 ValsAre
 [AV.ptr (nat_lit 0) (nat_lit 0), AV.ptr (nat_lit 1) (nat_lit 0), AV.int IntKind.i64 n,
 AV.int IntKind.i64 n_2]
 [AV.ptr (nat_lit 0) (nat_lit 0), AV.ptr (nat_lit 1) (nat_lit 0), AV.int IntKind.i64 y.snd.fst,
 AV.int IntKind.i64 y.snd.snd] ∧
 StIs
 { boxes := [some [AV.int IntKind.i64 (0 : Int), AV.int IntKind.i64 (0 : Int), AV.str []], some [AV.int IntKind.i64 (IntKind.i64.wrap n_1), AV.int IntKind.i64 (0 : Int), AV.str s]], live := [] }
 { boxes := [some [AV.int IntKind.i64 (0 : Int), AV.int IntKind.i64 (0 : Int), AV.str []], some [AV.int IntKind.i64 y.fst.k, AV.int IntKind.i64 y.fst.n, AV.str y.fst.s]], live := [] } ∧
 IX bs at_ y ∧ True) ∧
 ((IntKind.i64.wrap n_1 == (4 : Int)) = false →
 ((IntKind.i64.wrap n_1 == (5 : Int)) = true →
 ∃ (s : List UInt8),
 ∃ (n : Int),
 ∃ (n_2 : Int),
 CallIs
 (tbl [(nat_lit 13, s12), (nat_lit 35, s35), (nat_lit 36, s33), (nat_lit 37, s37)] (nat_lit 37)
 [AV.sl (nat_lit 1) (bytesL bs) Own.no, AV.int IntKind.i64 (IntKind.i64.wrap (at_ + (1 : Int)))])
 (AV.tup [AV.str s, AV.int IntKind.i64 n, AV.int IntKind.i64 n_2]) [] ∧
 ∃ (y : V3 × Int × Int),
 ValsAre
 [AV.ptr (nat_lit 0) (nat_lit 0), AV.ptr (nat_lit 1) (nat_lit 0), AV.int IntKind.i64 n,
 AV.int IntKind.i64 n_2]
 [AV.ptr (nat_lit 0) (nat_lit 0), AV.ptr (nat_lit 1) (nat_lit 0), AV.int IntKind.i64 y.snd.fst,
 AV.int IntKind.i64 y.snd.snd] ∧
 StIs
 { boxes := [some [AV.int IntKind.i64 (0 : Int), AV.int IntKind.i64 (0 : Int), AV.str []], some [AV.int IntKind.i64 (IntKind.i64.wrap n_1), AV.int IntKind.i64 (0 : Int), AV.str s]], live := [] }
 { boxes := [some [AV.int IntKind.i64 (0 : Int), AV.int IntKind.i64 (0 : Int), AV.str []], some [AV.int IntKind.i64 y.fst.k, AV.int IntKind.i64 y.fst.n, AV.str y.fst.s]], live := [] } ∧
 IX bs at_ y ∧ True) ∧
 ((IntKind.i64.wrap n_1 == (5 : Int)) = false →
 ∃ (y : V3 × Int × Int),
 ValsAre
 [AV.ptr (nat_lit 0) (nat_lit 0), AV.ptr (nat_lit 1) (nat_lit 0),
 AV.int IntKind.i64 (IntKind.i64.wrap (at_ + (1 : Int))), AV.int IntKind.i64 (3 : Int)]
 [AV.ptr (nat_lit 0) (nat_lit 0), AV.ptr (nat_lit 1) (nat_lit 0), AV.int IntKind.i64 y.snd.fst,
 AV.int IntKind.i64 y.snd.snd] ∧
 StIs
 { boxes := [some [AV.int IntKind.i64 (0 : Int), AV.int IntKind.i64 (0 : Int), AV.str []], some [AV.int IntKind.i64 (IntKind.i64.wrap n_1), AV.int IntKind.i64 (0 : Int), AV.str []]], live := [] }
 { boxes := [some [AV.int IntKind.i64 (0 : Int), AV.int IntKind.i64 (0 : Int), AV.str []], some [AV.int IntKind.i64 y.fst.k, AV.int IntKind.i64 y.fst.n, AV.str y.fst.s]], live := [] } ∧
 IX bs at_ y ∧ True))))))) ∧
 ∀ (x : V3 × Int × Int),
 IX bs at_ x →
 True →
 ((x.snd.snd == (0 : Int)) = true →
 ∃ (n : Int),
 CallIs
 (tbl [(nat_lit 13, s12), (nat_lit 35, s35), (nat_lit 36, s33), (nat_lit 37, s37)] (nat_lit 13)
 [AV.agg [AV.int IntKind.i64 x.fst.k, AV.int IntKind.i64 x.fst.n, AV.str x.fst.s]])
 (AV.int IntKind.i64 n) [] ∧
 ((n != (0 : Int)) = true →
 RetIs
 (AV.tup
 [AV.agg [AV.int IntKind.i64 (0 : Int), AV.int IntKind.i64 (0 : Int), AV.str []], AV.int IntKind.i64 (0 : Int),
 AV.int IntKind.i64 n])
 [] (r, [])) ∧
 ((n != (0 : Int)) = false →
 RetIs
 (AV.tup
 [AV.agg [AV.int IntKind.i64 x.fst.k, AV.int IntKind.i64 x.fst.n, AV.str x.fst.s], AV.int IntKind.i64 x.snd.fst,
 AV.int IntKind.i64 (0 : Int)])
 [] (r, []))) ∧
 ((x.snd.snd == (0 : Int)) = false →
 ((x.snd.snd != (0 : Int)) = true →
 RetIs
 (AV.tup
 [AV.agg [AV.int IntKind.i64 (0 : Int), AV.int IntKind.i64 (0 : Int), AV.str []], AV.int IntKind.i64 (0 : Int),
 AV.int IntKind.i64 x.snd.snd])
 [] (r, [])) ∧
 ((x.snd.snd != (0 : Int)) = false →
 RetIs
 (AV.tup
 [AV.agg [AV.int IntKind.i64 x.fst.k, AV.int IntKind.i64 x.fst.n, AV.str x.fst.s], AV.int IntKind.i64 x.snd.fst,
 AV.int IntKind.i64 (0 : Int)])
 [] (r, [])))))) := by kernel_rfl
end Go.Abs

namespace Go.Abs
open Go.Proofs Go.Wire
theorem agg5 : aggA PZ 5 = some false := by kernel_rfl
theorem size5 : (sizeA PZ 5).isSome = true := by kernel_rfl
theorem uintP_none : ∀ (f : Nat) (l : List UInt8), (∀ j, j < f → j < l.length → 128 ≤ (l.getD j 0).toNat) → uintP f l = if f ≤ l.length then .error 3 else .error 41
  | 0, l, _ => by rw [uintP, if_pos (by omega)]
  | f + 1, [], _ => by rw [uintP, if_neg (by simp)]
  | f + 1, c :: t, h => by
    have h0 := h 0 (by omega) (by simp)
    simp at h0
    rw [uintP, if_neg (by omega), uintP_none f t fun j hj hl => by simpa using h (j + 1) (by omega) (by simp; omega)]
    by_cases hf : f ≤ t.length
    · rw [if_pos hf, if_pos (by simp; omega)]
    · rw [if_neg hf, if_neg (by simp; omega)]
theorem uintP_some : ∀ (f : Nat) (l : List UInt8) (e : Nat), e < f → f ≤ 10 → e < l.length → (l.getD e 0).toNat < 128 → (∀ j, j < e → 128 ≤ (l.getD j 0).toNat) →
    uintP f l = if (f = e + 1 ∧ 1 < (l.getD e 0).toNat) ∨ (f < e + 10 ∧ (l.getD e 0).toNat = 0) then .error 3 else .ok (hornL (l.take (e + 1)), e + 1)
  | 0, l, e, h, _, _, _, _ => by omega
  | f + 1, [], e, _, _, h, _, _ => by simp at h
  | f + 1, c :: t, 0, h1, hf, h2, h3, h4 => by
    simp only [List.getD_cons_zero] at h3 ⊢
    rw [uintP, if_pos h3]
    by_cases hc : (f = 0 ∧ 1 < c.toNat) ∨ (f < 9 ∧ c.toNat = 0)
    · rw [if_pos hc, if_pos (by omega)]
    · rw [if_neg hc, if_neg (by omega)]
      simp [hornL]; omega
  | f + 1, c :: t, e + 1, h1, hf, h2, h3, h4 => by
    have h0 := h4 0 (by omega)
    simp only [List.getD_cons_zero, List.getD_cons_succ, List.length_cons] at h0 h2 h3 ⊢
    rw [uintP, if_neg (by omega), uintP_some f t e (by omega) (by omega) (by omega) h3 fun j hj => by simpa using h4 (j + 1) (by omega)]
    by_cases hc : (f = e + 1 ∧ 1 < (t.getD e 0).toNat) ∨ (f < e + 10 ∧ (t.getD e 0).toNat = 0)
    · rw [if_pos hc, if_pos (by omega)]
    · rw [if_neg hc, if_neg (by omega)]
      have hc2 := c.toNat_lt
      rw [List.take_succ_cons]
      simp only [hornL, Except.ok.injEq, Prod.mk.injEq, and_true]
      omega
theorem atB_drop {bs : List UInt8} {a j : Nat} : ((bs.drop a).getD j 0).toNat = atB bs (a + j) := by
  unfold atB
  rw [List.getD_eq_getElem?_getD, List.getD_eq_getElem?_getD, List.getElem?_drop]
theorem hornL_lt : ∀ l : List UInt8, hornL l < 2 ^ (7 * l.length)
  | [] => by simp [hornL]
  | c :: l => by
    have h := hornL_lt l
    have e : 2 ^ (7 * (c :: l).length) = 128 * 2 ^ (7 * l.length) := by
      rw [List.length_cons, show 7 * (l.length + 1) = 7 * l.length + 7 by omega, Nat.pow_add]; omega
    rw [hornL, e]; omega
theorem hornL_snoc : ∀ (l : List UInt8) (c : UInt8), c.toNat ≤ 1 → hornL (l ++ [c]) < 2 ^ (7 * l.length + 1)
  | [], c, h => by simp [hornL]; omega
  | d :: l, c, h => by
    have h := hornL_snoc l c h
    have e : 2 ^ (7 * (d :: l).length + 1) = 128 * 2 ^ (7 * l.length + 1) := by
      rw [List.length_cons, show 7 * (l.length + 1) + 1 = 7 * l.length + 1 + 7 by omega, Nat.pow_add]; omega
    rw [List.cons_append, hornL, e]; omega
theorem J67.lt {bs : List UInt8} {a : Nat} {x : N67} (h : J67 bs a x) (hi : 0 ≤ x.i) : x.n < 2 ^ 57 := by
  obtain ⟨he, hl, hb, hg, h0, h1, hn⟩ := h
  unfold fewN at he
  obtain ⟨i, hi⟩ : ∃ i : Nat, x.i = i := ⟨x.i.toNat, by omega⟩
  rw [hi] at hn h1
  rw [hn, show ((i : Int) + 1).toNat = i + 1 by omega]
  by_cases h9 : x.e = 9
  · have h9' := hg h9
    have e : ((bs.drop a).take (x.e + 1)).drop (i + 1) = (((bs.drop a).take x.e).drop (i + 1)) ++ (if i < x.e then [(bs.drop a).getD x.e 0] else []) := by
      have hlen : x.e < (bs.drop a).length := by rw [List.length_drop]; omega
      rw [List.take_succ_eq_append_getElem hlen, List.drop_append]
      congr 1
      rw [List.length_take, Nat.min_eq_left (by omega)]
      by_cases hlt : i < x.e
      · rw [if_pos hlt, show i + 1 - x.e = 0 by omega, List.drop_zero, List.getD_eq_getElem?_getD, List.getElem?_eq_getElem hlen]; rfl
      · rw [if_neg hlt, List.drop_eq_nil_of_le (by simp; omega)]
    rw [e]
    by_cases hlt : i < x.e
    · rw [if_pos hlt]
      have h2 := hornL_snoc (((bs.drop a).take x.e).drop (i + 1)) ((bs.drop a).getD x.e 0) (by rw [atB_drop, h9]; exact h9')
      refine Nat.lt_of_lt_of_le h2 (Nat.pow_le_pow_right (by omega) ?_)
      rw [List.length_drop, List.length_take]; omega
    · rw [if_neg hlt, List.append_nil]
      refine Nat.lt_of_lt_of_le (hornL_lt _) (Nat.pow_le_pow_right (by omega) ?_)
      rw [List.length_drop, List.length_take]; omega
  · refine Nat.lt_of_lt_of_le (hornL_lt _) (Nat.pow_le_pow_right (by omega) ?_)
    rw [List.length_drop, List.length_take]; omega
theorem J67.next {bs : List UInt8} {a : Nat} {x : N67} {i : Nat} (h : J67 bs a x) (hi : x.i = i) : J67 bs a ⟨x.e, x.n * 128 + atB bs (a + i) % 128, (i : Int) - 1⟩ := by
  obtain ⟨he, hl, hb, hg, h0, h1, hn⟩ := h
  refine ⟨he, hl, hb, hg, by simp only []; omega, by simp only []; omega, ?_⟩
  simp only []
  unfold fewN at he
  rw [hi] at hn
  rw [hn, show ((i : Int) + 1).toNat = i + 1 by omega, show ((i : Int) - 1 + 1).toNat = i by omega]
  have hlen : i < ((bs.drop a).take (x.e + 1)).length := by rw [List.length_take, List.length_drop]; omega
  rw [List.drop_eq_getElem_cons hlen, hornL]
  congr 2
  rw [List.getElem_take, ← atB_drop, List.getD_eq_getElem?_getD, List.getElem?_eq_getElem (by rw [List.length_drop]; omega)]
  rfl
theorem p67 (m at_ : Int) (bs : List UInt8) (hb : strOk bs) : PureOk PZ (GZ m) XO (tbl [(35, s35)]) (itbl []) (a67 bs at_) [] 67 [bytesA bs, .int .i64 at_] (rUint (uintA bs at_), []) := by
  have hb' : bs.length ≤ 1000000 := hb
  constructor
  generalize hr : rUint (uintA bs at_) = r
  have t1 : tbl [(35, s35)] 35 [.sl 1 (bytesL bs) .no, .int .i64 at_] = some (.int .i64 (leftI bs at_), []) := by rw [tbl_hit]; exact sRd_at hb
  rw [w67]
  simp only [t1, bytesL_length, take_u8_iff agg5 size5, callIs_iff, Option.some.injEq, Prod.mk.injEq, AV.int.injEq, List.cons.injEq, valsAre_iff, stIs_iff, true_and, and_true, beq_iff_eq, beq_eq_false_iff_ne, ne_eq, exists_eq_left', decide_eq_true_eq, decide_eq_false_iff_not, ge_iff_le, gt_iff_lt, true_imp_iff]
  unfold uintA at hr
  refine ⟨fun h => ⟨?_⟩, fun h => ?_⟩
  · unfold leftI at h
    rw [if_pos] at hr
    · rw [← hr]; rfl
    · apply Classical.byContradiction; intro hn; rw [if_neg hn] at h; omega
  · have hat : ¬ (at_ < 0 ∨ (bs.length : Int) < at_) := by
      intro hn; unfold leftI at h; rw [if_pos hn] at h; omega
    rw [if_neg hat] at hr
    have hL : leftI bs at_ = bs.length - at_ := by unfold leftI; rw [if_neg hat]
    obtain ⟨a, rfl⟩ : ∃ a : Nat, at_ = a := ⟨at_.toNat, by omega⟩
    simp only [Int.toNat_natCast] at hr ⊢
    have hfew : fewN bs a = min (bs.length - a) 10 := rfl
    rw [hL]
    refine ⟨⟨⟨-1, fewN bs a - 1⟩, ⟨rfl, ?_⟩, ?_⟩, fun x hx => ⟨fun hi => ?_, fun hi => ?_⟩⟩
    · rw [wrap64_in (by omega) (by omega)]; simp only []; omega
    · exact ⟨by simp only []; omega, by simp only []; omega, .inl ⟨rfl, fun j h1 h2 => by simp only [] at h1; omega⟩⟩
    · obtain ⟨h0, h1, hc⟩ := hx
      obtain ⟨i, hi'⟩ : ∃ i : Nat, x.i = i := ⟨x.i.toNat, by omega⟩
      have e1 : IntKind.i64.wrap ((a : Int) + x.i) = ((a + i : Nat) : Int) := by rw [wrap64_in (by omega) (by omega)]; omega
      have e2 : IntKind.i64.wrap (x.i - 1) = x.i - 1 := wrap64_in (by omega) (by omega)
      rw [e1, e2, Int.toNat_natCast]
      refine ⟨by omega, _, ⟨by omega, rfl⟩, fun hlt => ⟨⟨x.i, x.i - 1⟩, ⟨rfl, rfl⟩, ⟨by simp only []; omega, by simp only []; omega, .inr ⟨by simp only []; omega, by simp only []; omega, ?_, fun j h2 h3 => by simp only [] at h2 h3; omega⟩⟩, by simp only []; omega⟩, fun hlt => ⟨⟨x.e, x.i - 1⟩, ⟨rfl, rfl⟩, ⟨by simp only []; omega, by simp only []; omega, ?_⟩, by simp only []; omega⟩⟩
      · simp only [hi', Int.toNat_natCast]; unfold atB; omega
      · simp only []
        have hat : 128 ≤ atB bs (a + i) := by unfold atB; omega
        rcases hc with ⟨hc1, hc2⟩ | ⟨hc1, hc2, hc3, hc4⟩
        · refine .inl ⟨hc1, fun j h2 h3 => ?_⟩
          by_cases hj : j = i
          · subst hj; exact hat
          · exact hc2 j (by omega) h3
        · refine .inr ⟨by omega, hc2, hc3, fun j h2 h3 => ?_⟩
          by_cases hj : j = i
          · subst hj; exact hat
          · exact hc4 j (by omega) h3
    · have hno : ∀ x : E67, I67 bs a x → x.i = -1 → x.e < 0 → uintP 10 (bs.drop a) = if 10 ≤ bs.length - a then .error 3 else .error 41 := fun x hx hi1 he => by
        obtain ⟨h0, h1, hc⟩ := hx
        rw [uintP_none 10 (bs.drop a) fun j hj hl => ?_, List.length_drop]
        rw [List.length_drop] at hl
        rw [atB_drop]
        rcases hc with ⟨hc1, hc2⟩ | ⟨hc1, hc2, hc3, hc4⟩
        · exact hc2 j (by omega) (by omega)
        · omega
      have hi1 : x.i = -1 := by have := hx.i0; omega
      refine ⟨⟨fun he => ⟨fun h9 => ⟨?_⟩, fun h9 => ⟨x, rfl, hx, hi1, fun _ => by omega⟩⟩, fun he => ⟨x, rfl, hx, hi1, fun _ => by omega⟩⟩, ?_⟩
      · rw [hno x hx hi1 he, if_neg (by omega)] at hr
        rw [← hr]; rfl
      · clear hi hi1 hx x
        rintro x ⟨hx, hi1, h9⟩
        have hsm : ∀ e : Nat, x.e = e → J67 bs a ⟨e, 0, e⟩ ∨ (e = 9 ∧ 1 < atB bs (a + 9)) := fun e he => by
          obtain ⟨h0, h1, hc⟩ := hx
          by_cases hg : e = 9 ∧ 1 < atB bs (a + 9)
          · exact .inr hg
          · rcases hc with ⟨hc1, hc2⟩ | ⟨hc1, hc2, hc3, hc4⟩
            · omega
            · rw [he, Int.toNat_natCast] at hc3
              refine .inl ⟨by simp only []; omega, hc3, fun j hj => hc4 j (by omega) (by simp only [] at hj; omega), fun h9 => by simp only [] at h9; omega, by simp only []; omega, by simp only []; omega, ?_⟩
              simp only []
              rw [List.drop_eq_nil_of_le]
              · rfl
              · rw [List.length_take]; omega
        have hyes : ∀ e : Nat, x.e = e → uintP 10 (bs.drop a) = if (e = 9 ∧ 1 < atB bs (a + e)) ∨ (0 < e ∧ atB bs (a + e) = 0) then .error 3 else .ok (hornL ((bs.drop a).take (e + 1)), e + 1) := fun e he => by
          obtain ⟨h0, h1, hc⟩ := hx
          rcases hc with ⟨hc1, hc2⟩ | ⟨hc1, hc2, hc3, hc4⟩
          · omega
          · rw [he, Int.toNat_natCast] at hc3
            rw [uintP_some 10 (bs.drop a) e (by omega) (by omega) (by rw [List.length_drop]; omega) (by rw [atB_drop]; exact hc3) (fun j hj => by rw [atB_drop]; exact hc4 j (by omega) (by omega))]
            rw [atB_drop]
            by_cases hq : (e = 9 ∧ 1 < atB bs (a + e)) ∨ (0 < e ∧ atB bs (a + e) = 0)
            · rw [if_pos hq, if_pos (by omega)]
            · rw [if_neg hq, if_neg (by omega)]
        have hlt : x.e < fewN bs a := by
          obtain ⟨h0, h1, hc⟩ := hx
          rcases hc with ⟨hc1, hc2⟩ | ⟨hc1, hc2, hc3, hc4⟩
          · omega
          · exact hc2
        have w9 : IntKind.i64.wrap ((a : Int) + 9) = ((a + 9 : Nat) : Int) := by rw [wrap64_in (by omega) (by omega)]; omega
        refine ⟨⟨fun he => ⟨?_⟩, fun he => ?_⟩, ?_⟩
        · rw [hno x hx hi1 he, if_pos (by have := h9 he; omega)] at hr
          rw [← hr]; rfl
        · obtain ⟨e, hee⟩ : ∃ e : Nat, x.e = e := ⟨x.e.toNat, by omega⟩
          have we : IntKind.i64.wrap ((a : Int) + x.e) = ((a + e : Nat) : Int) := by rw [wrap64_in (by omega) (by omega)]; omega
          have hyes := hyes e hee
          have hsm := hsm e hee
          have hae : (bs.getD (a + e) 0).toNat = atB bs (a + e) := rfl
          rw [we, w9, Int.toNat_natCast, Int.toNat_natCast]
          have fin : ∀ _ : Unit, ¬ (e = 9 ∧ 1 < atB bs (a + 9)) → (0 < e → atB bs (a + e) ≠ 0) → ∃ y : Nat, x.e = y ∧ J67 bs a { e := y, n := 0, i := y } ∧ (0 < y → ¬ atB bs (a + y) = 0) := fun _ h1 h2 =>
            ⟨e, hee, hsm.resolve_right h1, h2⟩
          refine ⟨fun h9' => ⟨by omega, _, ⟨by omega, rfl⟩, fun h1 => ⟨?_⟩, fun h1 => ⟨fun h0 => ⟨by omega, _, ⟨by omega, rfl⟩, fun hz => ⟨?_⟩, fun hz => ?_⟩, fun h0 => ?_⟩⟩, fun h9' => ⟨fun h0 => ⟨by omega, _, ⟨by omega, rfl⟩, fun hz => ⟨?_⟩, fun hz => ?_⟩, fun h0 => ?_⟩⟩
          · have : e = 9 := by omega
            subst this
            rw [hyes, if_pos (.inl ⟨rfl, by unfold atB; omega⟩)] at hr
            rw [← hr]; rfl
          · rw [hyes, if_pos (.inr ⟨by omega, by unfold atB; omega⟩)] at hr
            rw [← hr]; rfl
          · exact fin () (fun h => h1 (by have := h.2; unfold atB at this; clear fin hsm hyes; omega)) fun _ => by unfold atB; clear fin hsm hyes; omega
          · exact absurd h0 (by clear fin hsm hyes; omega)
          · rw [hyes, if_pos (.inr ⟨by omega, by unfold atB; omega⟩)] at hr
            rw [← hr]; rfl
          · exact fin () (fun h => h9' (by have := h.1; clear fin hsm hyes h; omega)) fun _ => by unfold atB; clear fin hsm hyes; omega
          · exact fin () (fun h => h9' (by have := h.1; clear fin hsm hyes h; omega)) fun h => absurd h (by clear fin hsm hyes; omega)
        · clear hsm hyes hlt hno hi1 h9 hx x
          rintro e ⟨hj, hz⟩
          have hu : uintP 10 (bs.drop a) = .ok (hornL ((bs.drop a).take (e + 1)), e + 1) := by
            obtain ⟨he, hl, hb, hg, h0, h1, hn⟩ := hj
            simp only [] at he hl hb hg
            rw [uintP_some 10 (bs.drop a) e (by omega) (by omega) (by rw [List.length_drop]; omega) (by rw [atB_drop]; exact hl) fun j hj => by rw [atB_drop]; exact hb j hj]
            rw [atB_drop, if_neg]
            rintro (⟨h2, h3⟩ | ⟨h2, h3⟩)
            · have : e = 9 := by omega
              subst this
              have := hg rfl; omega
            · exact hz (by omega) h3
          rw [hu] at hr
          refine ⟨⟨⟨e, 0, e⟩, ⟨rfl, rfl, rfl⟩, hj⟩, fun x hx => ⟨fun hi => ?_, fun hi => ⟨?_⟩⟩⟩
          · obtain ⟨i, hi'⟩ : ∃ i : Nat, x.i = i := ⟨x.i.toNat, by omega⟩
            have hfe : x.e < min (bs.length - a) 10 := hx.e
            have hie := hx.i1
            have hlt := hx.lt hi
            have e57 : (2 : Nat) ^ 57 = 144115188075855872 := by decide
            have e1 : IntKind.i64.wrap ((a : Int) + x.i) = ((a + i : Nat) : Int) := by rw [wrap64_in (by omega) (by omega)]; omega
            have e2 : IntKind.i64.wrap (x.i - 1) = (i : Int) - 1 := by rw [wrap64_in (by omega) (by omega)]; omega
            rw [e1, e2, Int.toNat_natCast]
            refine ⟨by omega, _, ⟨by omega, rfl⟩, by omega, ⟨x.e, x.n * 128 + atB bs (a + i) % 128, (i : Int) - 1⟩, ⟨rfl, ?_, rfl⟩, hx.next hi', by simp only []; omega⟩
            show _ = ((x.n * 128 + (bs.getD (a + i) 0).toNat % 128 : Nat) : Int)
            have hc := (bs.getD (a + i) 0).toNat_lt
            rw [Int.tmod_eq_emod_of_nonneg (by omega), wrapu64, wrapu64, wrapu64]
            omega
          · have hee : x.e = e := by
              have h1 := hx.l
              have h2 := hx.b
              have h3 := hj.l
              have h4 := hj.b
              simp only [] at h3 h4
              rcases Nat.lt_trichotomy x.e e with h5 | h5 | h5
              · have := h4 x.e h5; omega
              · exact h5
              · have := h2 e h5; omega
            have hi0 := hx.i0
            have hn := hx.n
            have hfe : x.e < min (bs.length - a) 10 := hx.e
            rw [hee, show (x.i + 1).toNat = 0 by omega, List.drop_zero] at hn
            have e1 : IntKind.i64.wrap (IntKind.i64.wrap ((a : Int) + x.e) + 1) = (a : Int) + ((e + 1 : Nat) : Int) := by
              rw [wrap64_in (n := (a : Int) + x.e) (by omega) (by omega), wrap64_in (by omega) (by omega)]; omega
            rw [← hr, e1, hn]
            rfl
end Go.Abs

namespace Go.Abs
open Go.Proofs Go.Wire
theorem drop_cons {bs : List UInt8} {a : Nat} (h : a < bs.length) : bs.drop a = bs.getD a 0 :: bs.drop (a + 1) := by
  rw [List.drop_eq_getElem_cons h, List.getD_eq_getElem?_getD, List.getElem?_eq_getElem h]; rfl
section
variable {bs : List UInt8} {a : Nat}
theorem readX_0 (h : a < bs.length) (hc : (bs.getD a 0).toNat = 0) : readX bs a = (⟨(bs.getD a 0).toNat, 0, []⟩, ((a + 1 : Nat) : Int), 0) := by
  unfold readX; rw [Int.toNat_natCast, drop_cons h]; simp only [hc, if_true]; rfl
theorem readX_1e (h : a + 1 = bs.length) (hc : (bs.getD a 0).toNat = 1) : readX bs a = (⟨1, 0, []⟩, 0, 41) := by
  unfold readX; rw [Int.toNat_natCast, drop_cons (by omega), List.drop_eq_nil_of_le (by omega)]; simp only [hc]; rfl
theorem readX_1 (h : a + 1 < bs.length) (hc : (bs.getD a 0).toNat = 1) : readX bs a = (⟨(bs.getD a 0).toNat, (bs.getD (a + 1) 0).toNat, []⟩, (a : Int) + 2, if 1 < (bs.getD (a + 1) 0).toNat then 3 else 0) := by
  unfold readX; rw [Int.toNat_natCast, drop_cons (by omega), drop_cons h]; simp only [hc]; rfl
theorem readX_n (h : a < bs.length) (hc : (bs.getD a 0).toNat = 2 ∨ (bs.getD a 0).toNat = 3) : readX bs a = (⟨(bs.getD a 0).toNat, (sintA bs ((a + 1 : Nat) : Int)).1, []⟩, (sintA bs ((a + 1 : Nat) : Int)).2) := by
  unfold readX; rw [Int.toNat_natCast, drop_cons h]; simp only []
  rw [if_neg (by omega), if_neg (by omega), if_pos hc]; rfl
theorem readX_t (h : a < bs.length) (hc : (bs.getD a 0).toNat = 4 ∨ (bs.getD a 0).toNat = 5) : readX bs a = (⟨(bs.getD a 0).toNat, 0, (textA bs ((a + 1 : Nat) : Int)).1⟩, (textA bs ((a + 1 : Nat) : Int)).2) := by
  unfold readX; rw [Int.toNat_natCast, drop_cons h]; simp only []
  rw [if_neg (by omega), if_neg (by omega), if_neg (by omega), if_pos hc]; rfl
theorem readX_x (h : a < bs.length) (hc : 5 < (bs.getD a 0).toNat) : readX bs a = (⟨(bs.getD a 0).toNat, 0, []⟩, 0, 3) := by
  unfold readX; rw [Int.toNat_natCast, drop_cons h]; simp only []
  rw [if_neg (by omega), if_neg (by omega), if_neg (by omega), if_neg (by omega)]
end
theorem IX.same {bs : List UInt8} {at_ : Int} {x : V3 × Int × Int} (h : x = readX bs at_) : IX bs at_ x := ⟨by rw [h], fun _ => h⟩
theorem IX.bad {bs : List UInt8} {at_ : Int} {x : V3 × Int × Int} {e : Int} (h : (readX bs at_).2.2 = e) (h1 : x.2.2 = e) (h2 : e ≠ 0) : IX bs at_ x := ⟨by rw [h, h1], fun h3 => absurd (h1.symm.trans h3) h2⟩
/-- how a reader ends -/
theorem endV {bs : List UInt8} {at_ : Int} {x : V3 × Int × Int} {r : AV} (hx : IX bs at_ x) (hs : x.2.2 = 0 → strOk x.1.s) (hr : rVal (finV (readX bs at_)) = r)
    {t : List (FuncId × Spec)} {f : FuncId} (ht : ∀ k n s, strOk s → tbl t f [.agg [.int .i64 k, .int .i64 n, .str s]] = some (.int .i64 (checkI k n s), [])) :
    (x.2.2 = 0 → ∃ n, tbl t f [.agg [.int .i64 x.1.k, .int .i64 x.1.n, .str x.1.s]] = some (.int .i64 n, []) ∧
      (¬ n = 0 → RetIs (AV.tup [.agg [.int .i64 0, .int .i64 0, .str []], .int .i64 0, .int .i64 n]) [] (r, [])) ∧
      (n = 0 → RetIs (AV.tup [.agg [.int .i64 x.1.k, .int .i64 x.1.n, .str x.1.s], .int .i64 x.2.1, .int .i64 0]) [] (r, []))) ∧
    (¬ x.2.2 = 0 → (¬ x.2.2 = 0 → RetIs (AV.tup [.agg [.int .i64 0, .int .i64 0, .str []], .int .i64 0, .int .i64 x.2.2]) [] (r, [])) ∧
      (x.2.2 = 0 → RetIs (AV.tup [.agg [.int .i64 x.1.k, .int .i64 x.1.n, .str x.1.s], .int .i64 x.2.1, .int .i64 0]) [] (r, []))) := by
  refine ⟨fun h => ⟨_, ht _ _ _ (hs h), fun hn => ⟨?_⟩, fun hn => ⟨?_⟩⟩, fun h => ⟨fun _ => ⟨?_⟩, fun h2 => absurd h2 h⟩⟩
  · rw [← hr, ← hx.o h]; unfold finV; simp only []; rw [if_pos h, if_pos hn]; rfl
  · rw [← hr, ← hx.o h]; unfold finV; simp only []; rw [if_pos h, if_neg (by rw [hn]; simp)]; rfl
  · rw [← hr]; unfold finV; simp only []; rw [← hx.e, if_neg h, if_pos h]; rfl
theorem textA_len {bs : List UInt8} {at_ : Int} : (textA bs at_).1.length ≤ bs.length := by
  unfold textA
  split
  · simp
  · split
    · simp
    · rename_i l m h
      unfold Z05.textR at h
      split at h
      · cases h
      · split at h
        · cases h
        · injection h with h
          injection h with h1 h2
          rw [← h1]; simp; omega
theorem readX_str {bs : List UInt8} {at_ : Int} (hb : strOk bs) : strOk (readX bs at_).1.s := by
  unfold readX
  split
  · show ([] : List UInt8).length ≤ _; simp
  · split
    · show ([] : List UInt8).length ≤ _; simp
    · split
      · split
        · show ([] : List UInt8).length ≤ _; simp
        · show ([] : List UInt8).length ≤ _; simp
      · split
        · show ([] : List UInt8).length ≤ _; simp
        · split
          · exact Nat.le_trans textA_len hb
          · show ([] : List UInt8).length ≤ _; simp
theorem p16 (m at_ : Int) (bs : List UInt8) (hb : strOk bs) : PureOk PZ (GZ m) XO (tbl [(12, s12), (33, s33), (34, sReadText)]) (itbl []) (a16 bs at_) [] 16 [bytesA bs, .int .i64 at_] (rVal (readV bs at_), []) := by
  have hb' : bs.length ≤ 1000000 := hb
  have hl : lenOk bs := by show (bs.length : Int) ≤ _; omega
  constructor
  generalize hr : rVal (readV bs at_) = r
  have ht : ∀ k n s, strOk s → tbl [(12, s12), (33, s33), (34, sReadText)] 12 [.agg [.int .i64 k, .int .i64 n, .str s]] = some (.int .i64 (checkI k n s), []) := fun k n s hs => by rw [tbl_hit, s12_at hs]
  have t2 : ∀ i, tbl [(12, s12), (33, s33), (34, sReadText)] 33 [.sl 1 (bytesL bs) .no, .int .i64 i] = some (rInt (sintA bs i), []) := fun i => by rw [tbl_miss (by decide), tbl_hit]; exact sRd_at hb
  have t3 : ∀ i, tbl [(12, s12), (33, s33), (34, sReadText)] 34 [.sl 1 (bytesL bs) .no, .int .i64 i] = some (rText (textA bs i), []) := fun i => by
    rw [tbl_miss (by decide), tbl_miss (by decide), tbl_hit]; simp only [sReadText, true_or, if_true, unBytes_mk, Option.bind_some, hl, rText]
  rw [w16]
  simp only [t2, t3, rInt, rText, bytesL_length, take_u8_iff agg5 size5, callIs_iff, Option.some.injEq, Prod.mk.injEq, AV.int.injEq, AV.tup.injEq, AV.str.injEq, List.cons.injEq, valsAre_iff, stIs_iff, St.mk.injEq, true_and, and_true, beq_iff_eq, beq_eq_false_iff_ne, bne_iff_ne, bne_eq_false_iff_eq, ne_eq, decide_eq_true_eq, decide_eq_false_iff_not, gt_iff_lt, true_imp_iff]
  unfold readV at hr
  refine ⟨fun h => ⟨?_⟩, fun h => ⟨fun h1 => ⟨?_⟩, fun h1 => ⟨fun h2 => ⟨?_⟩, fun h2 => ⟨by omega, ?_⟩⟩⟩⟩
  · rw [if_pos (.inl h)] at hr; rw [← hr]; rfl
  · rw [if_pos (.inr h1)] at hr; rw [← hr]; rfl
  · rw [if_neg (by omega)] at hr
    have : readX bs at_ = (⟨0, 0, []⟩, 0, 41) := by unfold readX; rw [List.drop_eq_nil_of_le (by omega)]
    rw [← hr, this]; rfl
  · rw [if_neg (by omega)] at hr
    obtain ⟨a, rfl⟩ : ∃ a : Nat, at_ = a := ⟨at_.toNat, by omega⟩
    have hc := (bs.getD a 0).toNat_lt
    have w1 : IntKind.i64.wrap ((bs.getD a 0).toNat : Int) = (bs.getD a 0).toNat := wrap64_in (by omega) (by omega)
    have w2 : IntKind.i64.wrap ((a : Int) + 1) = ((a + 1 : Nat) : Int) := by rw [wrap64_in (by omega) (by omega)]; omega
    have w3 : IntKind.i64.wrap (((a + 1 : Nat) : Int) + 1) = (a : Int) + 2 := by rw [wrap64_in (by omega) (by omega)]; omega
    simp only [Int.toNat_natCast]
    refine ⟨_, ⟨by omega, rfl⟩, ?_⟩
    simp only [w1, w2, w3, Int.toNat_natCast]
    have b1 : ∀ n1 : Int, (bs.getD (a + 1) 0).toNat = n1 → IntKind.i64.wrap n1 = (bs.getD (a + 1) 0).toNat := fun n1 hn => by
      have := (bs.getD (a + 1) 0).toNat_lt
      rw [← hn]; exact wrap64_in (by omega) (by omega)
    refine ⟨⟨fun c0 => ⟨(⟨_, _, _⟩, _, _), ⟨rfl, rfl⟩, ⟨rfl, rfl, rfl⟩, .same ?_⟩, fun c0 => ⟨fun c1 => ⟨fun e1 => ⟨(⟨_, _, _⟩, _, _), ⟨rfl, rfl⟩, ⟨rfl, rfl, rfl⟩, .bad (e := 41) ?_ rfl (by decide)⟩, fun e1 => ⟨by omega, _, ⟨by omega, rfl⟩, ?_⟩⟩, fun c1 => ⟨fun c2 => ⟨_, _, _, ⟨rfl, rfl, rfl⟩, (⟨_, _, _⟩, _, _), ⟨rfl, rfl⟩, ⟨rfl, rfl, rfl⟩, .same ?_⟩, fun c2 => ⟨fun c3 => ⟨_, _, _, ⟨rfl, rfl, rfl⟩, (⟨_, _, _⟩, _, _), ⟨rfl, rfl⟩, ⟨rfl, rfl, rfl⟩, .same ?_⟩, fun c3 => ⟨fun c4 => ⟨_, _, _, ⟨rfl, rfl, rfl⟩, (⟨_, _, _⟩, _, _), ⟨rfl, rfl⟩, ⟨rfl, rfl, rfl⟩, .same ?_⟩, fun c4 => ⟨fun c5 => ⟨_, _, _, ⟨rfl, rfl, rfl⟩, (⟨_, _, _⟩, _, _), ⟨rfl, rfl⟩, ⟨rfl, rfl, rfl⟩, .same ?_⟩, fun c5 => ⟨(⟨_, _, _⟩, _, _), ⟨rfl, rfl⟩, ⟨rfl, rfl, rfl⟩, .bad (e := 3) ?_ rfl (by decide)⟩⟩⟩⟩⟩⟩⟩, fun x hx => endV hx (fun h => by rw [hx.o h]; exact readX_str hb) hr ht⟩
    · rw [readX_0 (by omega) (by omega)]
    · rw [readX_1e (by omega) (by omega)]
    · rw [b1 _ rfl]
      refine ⟨fun h1 => ⟨(⟨_, _, _⟩, _, _), ⟨rfl, rfl⟩, ⟨rfl, rfl, rfl⟩, .same ?_⟩, fun h1 => ⟨(⟨_, _, _⟩, _, _), ⟨rfl, rfl⟩, ⟨rfl, rfl, rfl⟩, .same ?_⟩⟩
      · rw [readX_1 (by omega) (by omega), if_pos (by omega)]
      · rw [readX_1 (by omega) (by omega), if_neg (by omega)]
    · rw [readX_n (by omega) (by omega)]
    · rw [readX_n (by omega) (by omega)]
    · rw [readX_t (by omega) (by omega)]
    · rw [readX_t (by omega) (by omega)]
    · rw [readX_x (by omega) (by omega)]
theorem p17 (m at_ : Int) (bs : List UInt8) (hb : strOk bs) : PureOk PZ (GZ m) XO (tbl [(13, s12), (35, s35), (36, s33), (37, s37)]) (itbl []) (a17 bs at_) [] 17 [bytesA bs, .int .i64 at_] (rVal (readV bs at_), []) := by
  have hb' : bs.length ≤ 1000000 := hb
  constructor
  generalize hr : rVal (readV bs at_) = r
  have ht : ∀ k n s, strOk s → tbl [(13, s12), (35, s35), (36, s33), (37, s37)] 13 [.agg [.int .i64 k, .int .i64 n, .str s]] = some (.int .i64 (checkI k n s), []) := fun k n s hs => by rw [tbl_hit, s12_at hs]
  have t1 : ∀ i, tbl [(13, s12), (35, s35), (36, s33), (37, s37)] 35 [.sl 1 (bytesL bs) .no, .int .i64 i] = some (.int .i64 (leftI bs i), []) := fun i => by rw [tbl_miss (by decide), tbl_hit]; exact sRd_at hb
  have t2 : ∀ i, tbl [(13, s12), (35, s35), (36, s33), (37, s37)] 36 [.sl 1 (bytesL bs) .no, .int .i64 i] = some (rInt (sintA bs i), []) := fun i => by rw [tbl_miss (by decide), tbl_miss (by decide), tbl_hit]; exact sRd_at hb
  have t3 : ∀ i, tbl [(13, s12), (35, s35), (36, s33), (37, s37)] 37 [.sl 1 (bytesL bs) .no, .int .i64 i] = some (rText (textA bs i), []) := fun i => by
    rw [tbl_miss (by decide), tbl_miss (by decide), tbl_miss (by decide), tbl_hit]; exact sRd_at hb
  rw [w17]
  simp only [t1, t2, t3, rInt, rText, bytesL_length, take_u8_iff agg5 size5, callIs_iff, Option.some.injEq, Prod.mk.injEq, AV.int.injEq, AV.tup.injEq, AV.str.injEq, List.cons.injEq, valsAre_iff, stIs_iff, St.mk.injEq, true_and, and_true, beq_iff_eq, beq_eq_false_iff_ne, bne_iff_ne, bne_eq_false_iff_eq, ne_eq, decide_eq_true_eq, decide_eq_false_iff_not, gt_iff_lt, true_imp_iff, exists_eq_left']
  unfold readV at hr
  refine ⟨fun h => ⟨?_⟩, fun h => ⟨fun h1 => ⟨?_⟩, fun h1 => ?_⟩⟩
  · rw [if_pos (by unfold leftI at h; apply Classical.byContradiction; intro hn; rw [if_neg hn] at h; omega)] at hr; rw [← hr]; rfl
  · have hat : ¬ (at_ < 0 ∨ (bs.length : Int) < at_) := by
      intro hn; unfold leftI at h; rw [if_pos hn] at h; omega
    have hL : leftI bs at_ = bs.length - at_ := by unfold leftI; rw [if_neg hat]
    rw [if_neg hat] at hr
    have : readX bs at_ = (⟨0, 0, []⟩, 0, 41) := by unfold readX; rw [List.drop_eq_nil_of_le (by omega)]
    rw [← hr, this]; rfl
  · have hat : ¬ (at_ < 0 ∨ (bs.length : Int) < at_) := by
      intro hn; unfold leftI at h; rw [if_pos hn] at h; omega
    have hL : leftI bs at_ = bs.length - at_ := by unfold leftI; rw [if_neg hat]
    rw [if_neg hat] at hr
    obtain ⟨a, rfl⟩ : ∃ a : Nat, at_ = a := ⟨at_.toNat, by omega⟩
    have hc := (bs.getD a 0).toNat_lt
    have w1 : IntKind.i64.wrap ((bs.getD a 0).toNat : Int) = (bs.getD a 0).toNat := wrap64_in (by omega) (by omega)
    have w2 : IntKind.i64.wrap ((a : Int) + 1) = ((a + 1 : Nat) : Int) := by rw [wrap64_in (by omega) (by omega)]; omega
    have w3 : IntKind.i64.wrap (((a + 1 : Nat) : Int) + 1) = (a : Int) + 2 := by rw [wrap64_in (by omega) (by omega)]; omega
    rw [hL] at h h1 ⊢
    simp only [Int.toNat_natCast]
    refine ⟨by omega, _, ⟨by omega, rfl⟩, ?_⟩
    simp only [w1, w2, w3, Int.toNat_natCast]
    have b1 : ∀ n1 : Int, (bs.getD (a + 1) 0).toNat = n1 → IntKind.i64.wrap n1 = (bs.getD (a + 1) 0).toNat := fun n1 hn => by
      have := (bs.getD (a + 1) 0).toNat_lt
      rw [← hn]; exact wrap64_in (by omega) (by omega)
    refine ⟨⟨fun c0 => ⟨(⟨_, _, _⟩, _, _), ⟨rfl, rfl⟩, ⟨rfl, rfl, rfl⟩, .same ?_⟩, fun c0 => ⟨fun c1 => ⟨fun e1 => ⟨?_⟩, fun e1 => ⟨by omega, _, ⟨by omega, rfl⟩, ?_⟩⟩, fun c1 => ⟨fun c2 => ⟨_, _, _, ⟨rfl, rfl, rfl⟩, (⟨_, _, _⟩, _, _), ⟨rfl, rfl⟩, ⟨rfl, rfl, rfl⟩, .same ?_⟩, fun c2 => ⟨fun c3 => ⟨_, _, _, ⟨rfl, rfl, rfl⟩, (⟨_, _, _⟩, _, _), ⟨rfl, rfl⟩, ⟨rfl, rfl, rfl⟩, .same ?_⟩, fun c3 => ⟨fun c4 => ⟨_, _, _, ⟨rfl, rfl, rfl⟩, (⟨_, _, _⟩, _, _), ⟨rfl, rfl⟩, ⟨rfl, rfl, rfl⟩, .same ?_⟩, fun c4 => ⟨fun c5 => ⟨_, _, _, ⟨rfl, rfl, rfl⟩, (⟨_, _, _⟩, _, _), ⟨rfl, rfl⟩, ⟨rfl, rfl, rfl⟩, .same ?_⟩, fun c5 => ⟨(⟨_, _, _⟩, _, _), ⟨rfl, rfl⟩, ⟨rfl, rfl, rfl⟩, .bad (e := 3) ?_ rfl (by decide)⟩⟩⟩⟩⟩⟩⟩, fun x hx => endV hx (fun h => by rw [hx.o h]; exact readX_str hb) hr ht⟩
    · rw [readX_0 (by omega) (by omega)]
    · rw [readX_1e (by omega) (by omega)] at hr; rw [← hr]; rfl
    · rw [b1 _ rfl]
      refine ⟨fun h1 => ⟨(⟨_, _, _⟩, _, _), ⟨rfl, rfl⟩, ⟨rfl, rfl, rfl⟩, .same ?_⟩, fun h1 => ⟨(⟨_, _, _⟩, _, _), ⟨rfl, rfl⟩, ⟨rfl, rfl, rfl⟩, .same ?_⟩⟩
      · rw [readX_1 (by omega) (by omega), if_pos (by omega)]
      · rw [readX_1 (by omega) (by omega), if_neg (by omega)]
    · rw [readX_n (by omega) (by omega)]
    · rw [readX_n (by omega) (by omega)]
    · rw [readX_t (by omega) (by omega)]
    · rw [readX_t (by omega) (by omega)]
    · rw [readX_x (by omega) (by omega)]
theorem sRd_of {X : Shapes} {R : Callee} {C : CCallee} {m : Int} {g : FuncId} {f : List UInt8 → Int → AV} (hR : CalleeOk PZ (GZ m) R) (hC : ICalleeOk PZ (GZ m) (lowC C))
    (h : ∀ bs n, strOk bs → ∃ A, PureOk PZ (GZ m) X R C A [] g [bytesA bs, .int .i64 n] (f bs n, [])) : SpecOk PZ (GZ m) g (sRd f) := spec_ofW (X := X) (m := []) [1] mixedZ hR hC fun args r h' => by
  unfold sRd onBytes at h'
  split at h'
  · split at h'
    · rename_i hz
      split at h'
      · rename_i bs hb
        dsimp only at h'
        split at h'
        · rename_i hp
          injection h' with h'; subst h'
          simp only [wkL, wk1 hz hb]
          exact h _ _ hp
        · cases h'
      · cases h'
    · cases h'
  · cases h'
theorem o35 (m : Int) : SpecOk PZ (GZ m) 35 s35 := sRd_of (X := XO) tbl_nil itbl_nil fun bs n hb => ⟨nAn, p35 m n bs hb⟩
theorem o33 (m : Int) : SpecOk PZ (GZ m) 33 s33 := sRd_of (X := XO) (tbl_cons o66 tbl_nil) itbl_nil fun bs n hb => ⟨nAn, p33 m n bs hb⟩
theorem o67 (m : Int) : SpecOk PZ (GZ m) 67 s67 := sRd_of (X := XO) (tbl_cons (o35 m) tbl_nil) itbl_nil fun bs n hb => ⟨a67 bs n, p67 m n bs hb⟩
theorem o36 (m : Int) : SpecOk PZ (GZ m) 36 s33 := sRd_of (X := XO) (tbl_cons (o67 m) tbl_nil) itbl_nil fun bs n hb => ⟨nAn, p36 m n bs hb⟩
theorem o37 (m : Int) : SpecOk PZ (GZ m) 37 s37 := sRd_of (X := XO) (tbl_cons (o67 m) tbl_nil) itbl_nil fun bs n hb => ⟨nAn, p37 m n bs hb⟩
theorem o16 (m : Int) : SpecOk PZ (GZ m) 16 s16 := sRd_of (X := XO) (tbl_cons (o12 m) (tbl_cons (o33 m) (tbl_cons o34 tbl_nil))) itbl_nil fun bs n hb => ⟨a16 bs n, p16 m n bs hb⟩
theorem o17 (m : Int) : SpecOk PZ (GZ m) 17 s16 := sRd_of (X := XO) (tbl_cons (o13 m) (tbl_cons (o35 m) (tbl_cons (o36 m) (tbl_cons (o37 m) tbl_nil)))) itbl_nil fun bs n hb => ⟨a17 bs n, p17 m n bs hb⟩
end Go.Abs

namespace Go.Abs
open Go.Proofs Go.RowKit
section
variable {P : Program} {G : Glob} {E : Env} {w w' : World}
theorem glob_ifc {g : Nat} (hG : GlobOk G E w) (h : G g = some .ifc) : ∃ t x, w.cell? ⟨g, 0, none⟩ = some (.iface t x) := by
  have := (hG g _ h).2.1
  generalize hv : Value.pointer (some ⟨g, 0, none⟩) = v at this
  cases this with | elt _ _ _ _ b off u hcl hA hr h1 =>
  injection hv with hv
  injection hv with hv
  injection hv with h2 h3
  subst h2
  obtain ⟨_, h4⟩ := hA 0 _ 0 _ rfl rfl
  obtain ⟨t, x, h5⟩ := rep_ifc (hr 0 _ 0 _ rfl rfl)
  refine ⟨t, x, ?_⟩
  rw [← h5, ← h4]
  congr 2
theorem rep_tup2 {a b : AV} {u v : Value} (h1 : Rep E w a u) (h2 : Rep E w b v) : Rep E w (.tup [a, b]) (.tuple #[u, v]) := by
  refine .tup _ _ rfl fun i c x hc hx => ?_
  match i, hc, hx with
  | 0, hc, hx => simp at hc hx; subst hc; subst hx; exact h1
  | 1, hc, hx => simp at hc hx; subst hc; subst hx; exact h2
  | i + 2, hc, hx => simp at hc
theorem size_str {s : ByteArray} {l : List UInt8} (h : s.data.toList = l) : s.size = l.length := by rw [← h]; simp
/-- a table of integers that is a package variable -/
theorem glob_tab {g : Nat} {k : IntKind} {zs : List Int} (hG : GlobOk G E w) (h : G g = some (.agg (zs.map fun z => .int k z))) (hz : zs ≠ []) : w.heap[g]?.bind (fun o => match o with | .cells cs _ _ => some cs | _ => none) = some (zs.map fun z => Value.int k z).toArray := by
  obtain ⟨_, h1, _, h2⟩ := hG g _ h
  have hcell : ∀ j (hj : j < zs.length), w.cell? ⟨g, j, none⟩ = some (.int k zs[j]) := by
    generalize hv : Value.pointer (some ⟨g, 0, none⟩) = v at h1
    cases h1 with | elt _ _ _ _ b off u hcl hA hr h1 =>
    injection hv with hv
    injection hv with hv
    injection hv with h3 h4
    subst h3
    intro j hj
    have hc : (AV.agg (zs.map fun z => .int k z)).cells[j]? = some (.int k zs[j]) := by simp [AV.cells, hj]
    obtain ⟨_, h5⟩ := hA 0 _ j _ rfl hc
    have h6 := rep_int (hr 0 _ j _ rfl hc)
    rw [← h6, ← h5]
    congr 2
    omega
  have h0 := hcell 0 (List.length_pos_iff.2 hz)
  unfold World.cell? at hcell h0 h2
  simp only at hcell h0 h2
  cases ho : w.heap[g]? with
  | none => rw [ho] at h0; cases h0
  | some o =>
    rw [ho] at h0
    rw [ho] at hcell h2
    cases o with
    | cells cs e f =>
      simp only [Option.isSome_none, Bool.false_eq_true, if_false] at hcell h2
      simp only [Option.bind_some, Option.some.injEq]
      have hn : (AV.agg (zs.map fun z => .int k z)).cells.length = zs.length := by simp [AV.cells]
      rw [hn] at h2
      have hsz : cs.size ≤ zs.length := by
        apply Classical.byContradiction
        intro hlt
        rw [Array.getElem?_eq_getElem (by omega)] at h2
        cases h2
      apply Array.ext_getElem?
      intro i
      by_cases hi : i < zs.length
      · rw [hcell i hi]; simp [hi]
      · have e1 : cs[i]? = none := Array.getElem?_eq_none (by omega)
        rw [e1, List.getElem?_toArray, List.getElem?_map, List.getElem?_eq_none (by omega)]; rfl
    | _ => simp at h0
end
def atoiV (l : List UInt8) : Int := match Lib.atoiAll l with
  | .ok v => v
  | .range => Lib.atoiSat l
  | _ => 0
def atoiB (l : List UInt8) : Bool := match Lib.atoiAll l with
  | .ok _ => true
  | _ => false
def s46 : Spec := fun args => match args with
  | [.str l] => if strOk l then some (.tup [.int .i64 (atoiV l), if atoiB l = true then .lit .nilIface else .ifc], []) else none
  | _ => none
def s84 : Spec := fun args => match args with
  | [.int .i64 n] => if i64Ok n then some (.str (Lib.itoa n), []) else none
  | _ => none
theorem o46 (m : Int) : SpecOk PZ (GZ m) 46 s46 := by
  intro g args r lv h E w vs hI hG hn' hv hcl
  simp only at h
  split at h
  case isFalse => cases h
  case isTrue e =>
  subst e
  unfold s46 at h
  split at h
  case h_2 => cases h
  case h_1 l =>
  split at h
  case isFalse => cases h
  case isTrue hl =>
  have hl' : l.length ≤ 1000000 := hl
  simp only [Option.some.injEq, Prod.mk.injEq] at h
  obtain ⟨rfl, rfl⟩ := h
  obtain ⟨a, rfl⟩ := vs_one hn'
  obtain ⟨s, rfl, hs⟩ := rep_str (hv 0 _ _ rfl rfl)
  have hsz : s.size = l.length := size_str hs
  refine .inl ⟨goodZ (by kernel_rfl), ?_⟩
  unfold atoiV atoiB
  cases hA : Lib.atoiAll l with
  | ok v =>
    refine (Tryz.strconv_Atoi_ok s (by omega) v (by rw [hs]; exact hA) w).mono fun e w' ⟨he, hw⟩ => ⟨_, he, ?_⟩
    have hb : Below w.heap.size w w' := by
      rcases hw with rfl | ⟨t, rfl⟩
      · exact Below.refl _ _
      · exact Lib.bytesWorld_below _ _ _
    exact res_below hb fun B K => rep_tup2 (.int _ _) (.lit _ rfl)
  | range =>
    obtain ⟨t, x, hx⟩ := glob_ifc (g := 3) hG rfl
    refine (Tryz.strconv_Atoi_range s (by omega) (by rw [hs]; exact hA) _ w hx (.inr ⟨t, x, rfl⟩)).mono fun e w' ⟨N, he, _, _, hb⟩ => ⟨_, he, ?_⟩
    rw [← hs]
    exact res_below hb fun B K => rep_tup2 (.int _ _) (.ifc _ _)
  | _ =>
    obtain ⟨t, x, hx⟩ := glob_ifc (g := 2) hG rfl
    refine (Any.strconv_Atoi_syntax Tryz.laysC172 s (by omega) (by rw [hs]; exact hA) _ w hx (.inr ⟨t, x, rfl⟩)).mono fun e w' ⟨N, he, _, _, hb⟩ => ⟨_, he, ?_⟩
    exact res_below hb fun B K => rep_tup2 (.int _ _) (.ifc _ _)
theorem o84 (m : Int) : SpecOk PZ (GZ m) 84 s84 := by
  intro g args r lv h E w vs hI hG hn' hv hcl
  simp only at h
  split at h
  case isFalse => cases h
  case isTrue e =>
  subst e
  unfold s84 at h
  split at h
  case h_2 => cases h
  case h_1 n =>
  split at h
  case isFalse => cases h
  case isTrue hl =>
  simp only [Option.some.injEq, Prod.mk.injEq] at h
  obtain ⟨rfl, rfl⟩ := h
  obtain ⟨a, rfl⟩ := vs_one hn'
  obtain rfl := rep_int (hv 0 _ _ rfl rfl)
  have htab : Lib.TabIs PZ w "internal/strconv.uint64pow10" .u64 Lib.pow10Tab := by
    have hg : PZ.globalNamed "internal/strconv.uint64pow10" = some 6 := by kernel_rfl
    have hk : GZ m 6 = some (.agg (Lib.pow10Tab.map fun z => .int .u64 z)) := by
      show some keptPowsA = _
      unfold keptPowsA keptPows Lib.pow10Tab
      rw [List.map_map]; rfl
    have := glob_tab hG hk (by unfold Lib.pow10Tab; simp)
    unfold Lib.TabIs World.var?
    rw [hg]
    cases ho : w.heap[6]? with
    | none => rw [ho] at this; cases this
    | some o => rw [ho] at this; cases o <;> simp_all
  refine .inl ⟨goodZ (by kernel_rfl), (Tryz.strconv_Itoa n hl.1 (by have := hl.2; omega) w htab).mono fun e w' ⟨he, k, os, hw⟩ => ⟨_, he, ?_⟩⟩
  subst hw
  exact res_below (Lib.below_grow _ _ (Nat.le_refl _) _ _) fun B K => .str _ _ rfl
theorem o44 (m : Int) : SpecOk PZ (GZ m) 44 sContains := o_contains (goodZ (by kernel_rfl)) (g0 := 1) (m := m) rfl fun s sub m w hs hm => Tryz.strings_Contains s sub m w hs hm
def s64 : Spec := fun args => match args with
  | [.str a, .str b] => some (.int .i64 (Lib.compareBytes a b), [])
  | _ => none
theorem o64 (m : Int) : SpecOk PZ (GZ m) 64 s64 := by
  intro g args r lv h E w vs hI hG hn' hv hcl
  simp only at h
  split at h
  case isFalse => cases h
  case isTrue e =>
  subst e
  unfold s64 at h
  split at h
  case h_2 => cases h
  case h_1 l k =>
  simp only [Option.some.injEq, Prod.mk.injEq] at h
  obtain ⟨rfl, rfl⟩ := h
  obtain ⟨a, b, rfl⟩ := vs_two hn'
  obtain ⟨s, rfl, hs⟩ := rep_str (hv 0 _ _ rfl rfl)
  obtain ⟨t, rfl, ht⟩ := rep_str (hv 1 _ _ rfl rfl)
  refine .inl ⟨goodZ (by kernel_rfl), (Tryz.strings_Compare s t w).mono fun e w' ⟨he, hw⟩ => ⟨_, he, ?_⟩⟩
  subst hw
  rw [← hs, ← ht]
  exact res_same fun B K => .int _ _
end Go.Abs
