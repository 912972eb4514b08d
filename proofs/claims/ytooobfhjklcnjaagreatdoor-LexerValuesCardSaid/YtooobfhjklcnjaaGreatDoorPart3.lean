/- Own texts, part 3. -/
import Derived.Test.YtooobfhjklcnjaaGreatDoorProg
import Derived.Test.YtooobfhjklcnjaaGreatDoorChecked
import Derived.WalkKit
import Derived.Defers
import Derived.Recover
import Derived.KernelRfl
import Derived.Laws.Pointers
import Derived.WalkLawsBesides
import Derived.BigQuiet
import Derived.Laws.BitsAllLaws
import Derived.Below
import Derived.WalkSmall
import Derived.Tactics2
import Derived.Laws.BytesString
import Derived.Test.YtooobfhjklcnjaaGreatDoorPart2
import Derived.Test.YtooobfhjklcnjaaGreatDoorShelf
import Derived.Lib.DecodeNEq
import Derived.Lib.IndexEntry
import Derived.Lib.AtoiAll

namespace Go.Proofs.Z05
open Go.RowKit

end Go.Proofs.Z05

namespace Go.Proofs.Z05
open Go.RowKit
end Go.Proofs.Z05

namespace Go.Proofs.Z05
open Go.RowKit
end Go.Proofs.Z05

namespace Go.Wire
/-- what one more byte makes of the number, as the machine reckons it -/
def accZ (acc : Int) (j : Nat) (c : UInt8) : Int := bits BinOp.or .u64 acc (IntKind.u64.wrap (IntKind.u64.wrap (bits BinOp.and .u8 c.toNat 127) * 2 ^ (7 * j)))
/-- the number's bytes: the value and how many, or an error -/
def numR : Nat → Nat → List UInt8 → Int → Except Int (Int × Nat)
  | 0, _, _, _ => .error 3
  | _ + 1, _, [], _ => .error 41
  | f + 1, i, c :: t, acc =>
    if c.toNat < 128 then (if (i = 9 ∧ 1 < c.toNat) ∨ (0 < i ∧ c.toNat = 0) then .error 3 else .ok (accZ acc i c, i + 1))
    else numR f (i + 1) t (accZ acc i c)
/-- the same without an accumulator -/
def uintP : Nat → List UInt8 → Except Int (Nat × Nat)
  | 0, _ => .error 3
  | _ + 1, [] => .error 41
  | f + 1, c :: t =>
    if c.toNat < 128 then (if (f = 0 ∧ 1 < c.toNat) ∨ (f < 9 ∧ c.toNat = 0) then .error 3 else .ok (c.toNat, 1))
    else match uintP f t with
      | .error x => .error x
      | .ok (v, m) => .ok (v * 128 + (c.toNat - 128), m + 1)
theorem uintP_bound : ∀ (f : Nat) (l : List UInt8) (v m : Nat), uintP f l = .ok (v, m) → v < 2 ^ (7 * (f - 1) + 1) ∧ 1 ≤ m ∧ m ≤ f ∧ m ≤ l.length
  | 0, l, v, m, h => by simp [uintP] at h
  | f + 1, [], v, m, h => by simp [uintP] at h
  | f + 1, c :: t, v, m, h => by
    have hc := c.toNat_lt
    rw [uintP] at h
    split at h
    · rename_i h1
      split at h
      · cases h
      · rename_i h2
        simp only [Except.ok.injEq, Prod.mk.injEq] at h
        obtain ⟨rfl, rfl⟩ := h
        refine ⟨?_, Nat.le_refl _, by omega, by simp⟩
        rcases Nat.eq_zero_or_pos f with h0 | h0
        · subst h0
          have : ¬ 1 < c.toNat := fun h => h2 (.inl ⟨rfl, h⟩)
          simp; omega
        · have : 2 ^ 8 ≤ 2 ^ (7 * (f + 1 - 1) + 1) := Nat.pow_le_pow_right (by omega) (by omega)
          omega
    · rename_i h1
      cases hr : uintP f t with
      | error x => rw [hr] at h; cases h
      | ok vm =>
        obtain ⟨v', m'⟩ := vm
        rw [hr] at h
        simp only [Except.ok.injEq, Prod.mk.injEq] at h
        obtain ⟨rfl, rfl⟩ := h
        obtain ⟨h2, h3, h4, h5⟩ := uintP_bound f t v' m' hr
        refine ⟨?_, by omega, by omega, by simp; omega⟩
        have e : 2 ^ (7 * (f + 1 - 1) + 1) = 128 * 2 ^ (7 * (f - 1) + 1) := by
          have : 7 * (f + 1 - 1) + 1 = 7 * (f - 1) + 1 + 7 := by omega
          rw [this, Nat.pow_add]
          omega
        omega
theorem or_add {a b i : Nat} (h : a < 2 ^ i) : a ||| b * 2 ^ i = a + b * 2 ^ i := by
  have := Nat.two_pow_add_eq_or_of_lt h b
  rw [Nat.or_comm, Nat.mul_comm, ← this, Nat.add_comm]
theorem accZ_eq {acc j : Nat} {c : UInt8} (hj : j ≤ 9) (ha : acc < 2 ^ (7 * j)) (hb : j = 9 → c.toNat ≤ 1) : accZ acc j c = ((acc + c.toNat % 128 * 2 ^ (7 * j) : Nat) : Int) := by
  have hc := c.toNat_lt
  have h1 : bits BinOp.and .u8 (c.toNat : Int) 127 = ((c.toNat % 128 : Nat) : Int) := by
    have := u8_and_nat c.toNat 127 (by omega) (by omega)
    rw [show ((127 : Nat) : Int) = 127 by rfl] at this
    rw [this]
    congr 1
    exact Nat.and_two_pow_sub_one_eq_mod c.toNat 7
  have hp : c.toNat % 128 * 2 ^ (7 * j) < 2 ^ 64 := by
    rcases Nat.lt_or_ge j 9 with h | h
    · have : 2 ^ (7 * j) ≤ 2 ^ 56 := Nat.pow_le_pow_right (by omega) (by omega)
      have h2 : c.toNat % 128 * 2 ^ (7 * j) ≤ 127 * 2 ^ 56 := Nat.mul_le_mul (by omega) this
      omega
    · obtain rfl : j = 9 := by omega
      have := hb rfl
      have h2 : c.toNat % 128 * 2 ^ (7 * 9) ≤ 1 * 2 ^ 63 := Nat.mul_le_mul (by omega) (by omega)
      omega
  have ha64 : acc < 2 ^ 64 := Nat.lt_of_lt_of_le ha (Nat.pow_le_pow_right (by omega) (by omega))
  unfold accZ
  rw [h1]
  have w1 : IntKind.u64.wrap ((c.toNat % 128 : Nat) : Int) = ((c.toNat % 128 : Nat) : Int) := by
    simp only [IntKind.wrap, IntKind.bits, IntKind.signed]; simp; omega
  rw [w1]
  have w2 : IntKind.u64.wrap (((c.toNat % 128 : Nat) : Int) * 2 ^ (7 * j)) = ((c.toNat % 128 * 2 ^ (7 * j) : Nat) : Int) := by
    have e : ((c.toNat % 128 : Nat) : Int) * 2 ^ (7 * j) = ((c.toNat % 128 * 2 ^ (7 * j) : Nat) : Int) := by push_cast; rfl
    rw [e]
    generalize c.toNat % 128 * 2 ^ (7 * j) = X at *
    simp only [IntKind.wrap, IntKind.bits, IntKind.signed]; simp; omega
  rw [w2, u64_or_nat _ _ (by omega) (by omega), or_add ha]
/-- both are one -/
theorem numR_eq : ∀ (f i : Nat) (l : List UInt8) (acc : Nat), f + i = 10 → acc < 2 ^ (7 * i) → numR f i l acc = match uintP f l with
    | .error x => .error x
    | .ok (v, m) => .ok (((acc + v * 2 ^ (7 * i) : Nat) : Int), i + m)
  | 0, i, l, acc, hf, ha => rfl
  | f + 1, i, [], acc, hf, ha => rfl
  | f + 1, i, c :: t, acc, hf, ha => by
    have hc := c.toNat_lt
    rw [numR, uintP]
    by_cases h1 : c.toNat < 128
    · rw [if_pos h1, if_pos h1]
      by_cases h2 : (i = 9 ∧ 1 < c.toNat) ∨ (0 < i ∧ c.toNat = 0)
      · rw [if_pos h2, if_pos (by omega)]
      · rw [if_neg h2, if_neg (by omega), accZ_eq (by omega) ha (by omega), Nat.mod_eq_of_lt h1]
    · rw [if_neg h1, if_neg h1]
      rcases Nat.eq_zero_or_pos f with h0 | h0
      · subst h0; rfl
      · have hlt : acc + c.toNat % 128 * 2 ^ (7 * i) < 2 ^ (7 * (i + 1)) := by
          have e : 2 ^ (7 * (i + 1)) = 128 * 2 ^ (7 * i) := by rw [Nat.mul_add, Nat.pow_add]; omega
          have h2 : c.toNat % 128 * 2 ^ (7 * i) ≤ 127 * 2 ^ (7 * i) := Nat.mul_le_mul (by omega) (by omega)
          omega
        rw [accZ_eq (by omega) ha (by omega), numR_eq f (i + 1) t _ (by omega) hlt]
        cases hr : uintP f t with
        | error x => rfl
        | ok vm =>
          obtain ⟨v, m⟩ := vm
          simp only [Except.ok.injEq, Prod.mk.injEq]
          refine ⟨?_, by omega⟩
          have e : 2 ^ (7 * (i + 1)) = 128 * 2 ^ (7 * i) := by rw [Nat.mul_add, Nat.pow_add]; omega
          have e2 : c.toNat % 128 = c.toNat - 128 := by omega
          rw [e, e2, Nat.add_mul, ← Nat.mul_assoc]
          generalize 2 ^ (7 * i) = X
          congr 1
          omega
/-- the encoding -/
def uintL (n : Nat) : List UInt8 := if n < 128 then [UInt8.ofNat n] else UInt8.ofNat (n % 128 + 128) :: uintL (n / 128)
theorem uintL_small {n : Nat} (h : n < 128) : uintL n = [UInt8.ofNat n] := by rw [uintL, if_pos h]
theorem uintL_big {n : Nat} (h : ¬ n < 128) : uintL n = UInt8.ofNat (n % 128 + 128) :: uintL (n / 128) := by rw [uintL, if_neg h]
theorem uintP_uintL : ∀ (f n : Nat) (rest : List UInt8), n < 2 ^ (7 * f + 1) → (f < 9 → n ≠ 0) → uintP (f + 1) (uintL n ++ rest) = .ok (n, (uintL n).length)
  | f, n, rest, hn, h0 => by
    by_cases h : n < 128
    · have e : (UInt8.ofNat n).toNat = n := by rw [UInt8.toNat_ofNat']; exact Nat.mod_eq_of_lt (by omega)
      rw [uintL_small h, List.singleton_append, uintP, e, if_pos h, if_neg]
      · rfl
      · rintro (⟨rfl, h2⟩ | ⟨h1, h2⟩)
        · simp at hn; omega
        · exact h0 h1 h2
    · have e : (UInt8.ofNat (n % 128 + 128)).toNat = n % 128 + 128 := by rw [UInt8.toNat_ofNat']; exact Nat.mod_eq_of_lt (by omega)
      match f, hn with
      | 0, hn => simp at hn; omega
      | f + 1, hn =>
        rw [uintL_big h, List.cons_append, uintP, e, if_neg (by omega)]
        have e2 : 2 ^ (7 * (f + 1) + 1) = 128 * 2 ^ (7 * f + 1) := by
          rw [show 7 * (f + 1) + 1 = 7 * f + 1 + 7 by omega, Nat.pow_add]; omega
        rw [uintP_uintL f (n / 128) rest (by omega) (by omega)]
        simp
        omega
theorem uintP_back : ∀ (f : Nat) (l : List UInt8) (v m : Nat), f ≤ 10 → uintP f l = .ok (v, m) → l.take m = uintL v ∧ (f < 10 → v ≠ 0)
  | 0, l, v, m, _, h => by simp [uintP] at h
  | f + 1, [], v, m, _, h => by simp [uintP] at h
  | f + 1, c :: t, v, m, h10, h => by
    have hc := c.toNat_lt
    rw [uintP] at h
    split at h
    · rename_i h1
      split at h
      · cases h
      · rename_i h2
        simp only [Except.ok.injEq, Prod.mk.injEq] at h
        obtain ⟨rfl, rfl⟩ := h
        refine ⟨by rw [uintL_small h1]; simp, fun hf h0 => h2 (.inr ⟨by omega, h0⟩)⟩
    · rename_i h1
      cases hr : uintP f t with
      | error x => rw [hr] at h; cases h
      | ok vm =>
        obtain ⟨v', m'⟩ := vm
        rw [hr] at h
        simp only [Except.ok.injEq, Prod.mk.injEq] at h
        obtain ⟨rfl, rfl⟩ := h
        obtain ⟨h3, hf⟩ := uintP_back f t v' m' (by omega) hr
        have hz := hf (by omega)
        refine ⟨?_, fun _ => by omega⟩
        rw [uintL_big (n := v' * 128 + (c.toNat - 128)) (by omega), List.take_succ_cons, h3]
        have e : (v' * 128 + (c.toNat - 128)) % 128 + 128 = c.toNat := by omega
        have e2 : (v' * 128 + (c.toNat - 128)) / 128 = v' := by omega
        rw [e, e2, UInt8.ofNat_toNat]
theorem uintL_length_pos (n : Nat) : 0 < (uintL n).length := by
  rw [uintL]; split <;> simp
/-- a proper beginning of an encoding ends too early -/
theorem uintP_short : ∀ (f n k : Nat), n < 2 ^ (7 * f + 1) → k < (uintL n).length → uintP (f + 1) ((uintL n).take k) = .error 41
  | f, n, 0, _, _ => rfl
  | f, n, k + 1, hn, hk => by
    by_cases h : n < 128
    · rw [uintL_small h] at hk; simp at hk
    · have e : (UInt8.ofNat (n % 128 + 128)).toNat = n % 128 + 128 := by rw [UInt8.toNat_ofNat']; exact Nat.mod_eq_of_lt (by omega)
      rw [uintL_big h, List.length_cons] at hk
      match f, hn with
      | 0, hn => simp at hn; omega
      | f + 1, hn =>
        rw [uintL_big h, List.take_succ_cons, uintP, e, if_neg (by omega)]
        have e2 : 2 ^ (7 * (f + 1) + 1) = 128 * 2 ^ (7 * f + 1) := by
          rw [show 7 * (f + 1) + 1 = 7 * f + 1 + 7 by omega, Nat.pow_add]; omega
        rw [uintP_short f (n / 128) k (by omega) (by omega)]
end Go.Wire

namespace Go.Proofs.Z05
open Go.RowKit
end Go.Proofs.Z05

namespace Go.Proofs.Z05
open Go.RowKit Go.Wire
end Go.Proofs.Z05

namespace Go.Proofs.Z05
open Go.RowKit Go.Wire
end Go.Proofs.Z05

namespace Go.Proofs.Z05
open Go.RowKit Go.Wire
end Go.Proofs.Z05

namespace Go.Proofs.Z05
open Go.RowKit Go.Wire
end Go.Proofs.Z05

namespace Go.Abs
open Go.Proofs
noncomputable abbrev PP := Tryz.prog
def tensA : AV := .agg [.int .i64 1, .int .i64 10, .int .i64 100, .int .i64 1000, .int .i64 10000, .int .i64 100000, .int .i64 1000000]
/-- the two tables of unicode/utf8 -/
def keptFirst : List AV := (List.range 256).map fun c => .int .u8 (Lib.firstT c)
def keptFirstA : AV := .agg keptFirst
def keptAcc : List AV := [.int .u8 128, .int .u8 191, .int .u8 160, .int .u8 191, .int .u8 128, .int .u8 159, .int .u8 144, .int .u8 191, .int .u8 128, .int .u8 143, .int .u8 0, .int .u8 0, .int .u8 0, .int .u8 0, .int .u8 0, .int .u8 0, .int .u8 0, .int .u8 0, .int .u8 0, .int .u8 0, .int .u8 0, .int .u8 0, .int .u8 0, .int .u8 0, .int .u8 0, .int .u8 0, .int .u8 0, .int .u8 0, .int .u8 0, .int .u8 0, .int .u8 0, .int .u8 0]
def keptAccA : AV := .agg keptAcc
def keptPows : List AV := (List.range 20).map fun i => .int .u64 ((10 ^ i : Nat) : Int)
def keptPowsA : AV := .agg keptPows
def G8 (m : Int) : Glob := fun g => match g with
  | 0 => some tensA
  | 1 => some (.int .i64 m)
  | 2 => some .ifc
  | 3 => some .ifc
  | 4 => some keptFirstA
  | 5 => some keptAccA
  | 6 => some keptPowsA
  | _ => none
def lib8 : List (FuncId × Spec) := [(61, sIndexByte), (62, sIndexByteString), (29, sContains)]
theorem mixed8 : PP.follows .mixedOrders = true := Tryz.checked.mixed
theorem good8 {f : FuncId} (h : (match PP.funcs[f]? with | some fn => fn.body.isSome && !(fn.name == "runtime.NumGoroutine") | none => false) = true) : goodFn PP f := by
  split at h
  · rename_i fn hf
    simp only [Bool.and_eq_true, Bool.not_eq_true'] at h
    exact ⟨fn, hf, h.1, h.2⟩
  · cases h
theorem lib8_ok (m : Int) : CalleeOk PP (G8 m) (tbl lib8) := by
  refine tbl_cons (o_indexByte (fn := Tryz.f61) (by kernel_rfl) (by kernel_rfl) (by kernel_rfl) (by kernel_rfl) (by kernel_rfl)) (tbl_cons (o_indexByteString (fn := Tryz.f62) (by kernel_rfl) (by kernel_rfl) (by kernel_rfl) (by kernel_rfl) (by kernel_rfl)) (tbl_cons ?_ tbl_nil))
  exact o_contains (good8 (by kernel_rfl)) (g0 := 1) (m := m) rfl fun s sub m w hs hm => Tryz.strings_Contains s sub m w hs hm

theorem spec_run {P : Program} {G : Glob} {R0 : Callee} (hm : P.follows .mixedOrders = true) (h0 : CalleeOk P G R0) {f : FuncId} {s : Spec} (h : ∀ args r, s args = some r → ∃ n, (evs P G R0 (fun _ => []) n).1 f args = some r) : SpecOk P G f s := by
  intro g args r lv hr
  simp only at hr
  split at hr
  · rename_i e
    subst e
    obtain ⟨n, hn⟩ := h args _ hr
    exact (evs_ok hm h0 (fun _ => []) n).1 g args r lv hn
  · cases hr

def cls (c : Nat) : Nat :=
  if c = 9 ∨ c = 10 ∨ c = 13 ∨ c = 32 then 1 else
  if 97 ≤ c ∧ c ≤ 122 then 2 else
  if 48 ≤ c ∧ c ≤ 57 then 3 else
  if c = 95 then 4 else
  if c = 34 then 5 else
  if c = 35 then 6 else
  if c ∈ [123, 125, 40, 41, 91, 93, 44, 58, 59, 61, 60, 43, 45, 42, 47, 94, 64] then 7 else
  if c = 33 then 8 else 0
def classesA : AV := .agg ((List.range 256).map fun c => .int .u8 (cls c))
def s24 : Spec := fun args => match args with
  | [] => some (classesA, [])
  | _ => none
set_option maxRecDepth 100000 in
theorem run24 (m : Int) : (evs PP (G8 m) (tbl lib8) (fun _ => []) 60).1 24 [] = some (classesA, []) := by kernel_rfl
theorem o24 (m : Int) : SpecOk PP (G8 m) 24 s24 := spec_run mixed8 (lib8_ok m) fun args r h => by
  unfold s24 at h
  split at h
  · injection h with h; subst h; exact ⟨60, run24 m⟩
  · cases h
def lib8b : List (FuncId × Spec) := (24, s24) :: lib8
theorem lib8b_ok (m : Int) : CalleeOk PP (G8 m) (tbl lib8b) := tbl_cons (o24 m) (lib8_ok m)
end Go.Abs

namespace Go.Abs
open Go.Proofs
def shB : Sh × Option TypeId := (.val (.one .bool), none)
def shI : Sh × Option TypeId := (.val (.one (.int .i64)), none)
def letterB (c : UInt8) : Bool := decide (97 ≤ c.toNat ∧ c.toNat ≤ 122)
def digitB (c : UInt8) : Bool := decide (48 ≤ c.toNat ∧ c.toNat ≤ 57)
def innerB (c : UInt8) : Bool := letterB c || digitB c || c == 95
def nA : Nat → Option Ann := fun _ => none
end Go.Abs

namespace Go.Abs
open Go.Proofs

theorem agg5 : aggA PP 5 = some false := by kernel_rfl
theorem size5 : (sizeA PP 5).isSome = true := by kernel_rfl

theorem getD_drop' {bs : List UInt8} {i k : Nat} : (bs.drop i).getD k 0 = bs.getD (i + k) 0 := by
  simp [List.getElem?_drop]


end Go.Abs

namespace Go.Abs.L8
open Go.Abs

structure Tk where
  kind : Int
  text : List UInt8
  at_ : Nat
  deriving DecidableEq
structure Pb where
  at_ : Nat
  code : Int
  deriving DecidableEq

def blankB (c : UInt8) : Bool := c == 9 || c == 10 || c == 13 || c == 32
def signs : List UInt8 := [123, 125, 40, 41, 91, 93, 44, 58, 59, 61, 60, 43, 45, 42, 47, 94, 64]
def signB (c : UInt8) : Bool := signs.contains c
def eqB (c : UInt8) : Bool := c == 61 || c == 33 || c == 60

def valL (s : List UInt8) : Nat := s.foldl (fun n c => 10 * n + (c.toNat - 48)) 0
def intErr (s : List UInt8) : Int := if 2 ^ 60 < valL s then 2 else 0
/-- s: digits, a point, digits -/
def decErr (s : List UInt8) : Int :=
  let a := s.takeWhile digitB
  let b := s.drop (a.length + 1)
  if 6 < b.length then 3 else if 2 ^ 60 < valL (a ++ b) * 10 ^ (6 - b.length) then 2 else 0
def badB (c : UInt8) : Bool := decide (c.toNat < 32) || decide (126 < c.toNat) || c == 92
def txtErr (s : List UInt8) : Int := if 64 < s.length then 2 else if s.any badB then 3 else 0

def lineB (c : UInt8) : Bool := c != 34 && c != 10
/-- kind, length, problem -/
def piece : List UInt8 → Int × Nat × Int
  | [] => (0, 0, 0)
  | c :: t =>
    if blankB c then (0, 1, 0)
    else if c == 35 then (0, 1 + (t.takeWhile (· != 10)).length, 0)
    else if letterB c then (1, 1 + (t.takeWhile innerB).length, if 24 < 1 + (t.takeWhile innerB).length then 2 else 0)
    else if digitB c then
      let n := 1 + (t.takeWhile digitB).length
      match (c :: t).drop n with
      | 46 :: u =>
        if (u.takeWhile digitB).length = 0 then (2, n, intErr ((c :: t).take n))
        else (3, n + 1 + (u.takeWhile digitB).length, decErr ((c :: t).take (n + 1 + (u.takeWhile digitB).length)))
      | _ => (2, n, intErr ((c :: t).take n))
    else if c == 34 then
      match t.drop (t.takeWhile lineB).length with
      | 34 :: _ => (4, (t.takeWhile lineB).length + 2, txtErr (t.takeWhile lineB))
      | _ => (-1, 1, 80)
    else if eqB c && (t.head?.getD 0 == 61) then (5, 2, 0)
    else if signB c then (5, 1, 0)
    else (-1, 1, 80)

theorem piece_pos (c : UInt8) (t : List UInt8) : 1 ≤ (piece (c :: t)).2.1 := by
  simp only [piece]
  repeat' split
  all_goals simp <;> omega
theorem tw_le {p : UInt8 → Bool} (l : List UInt8) : (l.takeWhile p).length ≤ l.length := (List.takeWhile_prefix p).length_le
theorem drop_cons_lt {l : List UInt8} {n : Nat} {c : UInt8} {u : List UInt8} (h : l.drop n = c :: u) : n + 1 + u.length = l.length := by
  have := congrArg List.length h
  simp at this
  omega
theorem piece_le (l : List UInt8) : (piece l).2.1 ≤ l.length := by
  cases l with
  | nil => simp [piece]
  | cons c t =>
    have h1 := tw_le (p := (· != 10)) t
    have h2 := tw_le (p := innerB) t
    have h3 := tw_le (p := digitB) t
    have h4 := tw_le (p := lineB) t
    simp only [piece]
    repeat' split
    all_goals try (simp <;> omega)
    · rename_i u h5 _
      have := drop_cons_lt h5
      have := tw_le (p := digitB) u
      simp at *; omega
    · rename_i u h5
      have := drop_cons_lt h5
      simp at *; omega
    · rename_i h5 
      simp only [Bool.and_eq_true] at h5
      cases t with
      | nil => simp at h5
      | cons d t => simp

def txtOf (l : List UInt8) : List UInt8 := if (piece l).1 = 4 then ((l.take (piece l).2.1).drop 1).take ((piece l).2.1 - 2) else l.take (piece l).2.1
/-- what one piece adds: tokens, problems -/
def tkOf (l : List UInt8) (at_ : Nat) : List Tk := if (piece l).1 ≠ -1 ∧ (piece l).2.2 = 0 ∧ (piece l).1 ≠ 0 then [⟨(piece l).1, txtOf l, at_⟩] else []
def pbOf (l : List UInt8) (at_ : Nat) (adj : Bool) : List Pb :=
  if (piece l).1 = -1 then (if adj then [] else [⟨at_, 80⟩]) else if (piece l).2.2 = 0 then [] else [⟨at_, (piece l).2.2⟩]
def adjOf (l : List UInt8) : Bool := decide ((piece l).1 = -1)

def scanF : Nat → List UInt8 → Nat → Bool → List Tk × List Pb
  | 0, _, _, _ => ([], [])
  | n + 1, l, a, adj =>
    match l with
    | [] => ([], [])
    | c :: t =>
      let r := scanF n ((c :: t).drop (piece (c :: t)).2.1) (a + (piece (c :: t)).2.1) (adjOf (c :: t))
      (tkOf (c :: t) a ++ r.1, pbOf (c :: t) a adj ++ r.2)
theorem scanF_fuel : ∀ (n m : Nat) (l : List UInt8) (a : Nat) (adj : Bool), l.length ≤ n → l.length ≤ m → scanF n l a adj = scanF m l a adj := by
  intro n
  induction n with
  | zero =>
    intro m l a adj hn _
    have : l = [] := List.length_eq_zero_iff.1 (by omega)
    subst this
    cases m <;> simp [scanF]
  | succ n ih =>
    intro m l a adj hn hm
    cases l with
    | nil => cases m <;> simp [scanF]
    | cons c t =>
      cases m with
      | zero => simp at hm
      | succ m =>
        have := piece_pos c t
        simp only [scanF]
        rw [ih m _ _ _ (by simp at hn ⊢; omega) (by simp at hm ⊢; omega)]
def scan (l : List UInt8) (a : Nat) (adj : Bool) : List Tk × List Pb := scanF l.length l a adj
theorem scan_nil (a : Nat) (adj : Bool) : scan [] a adj = ([], []) := rfl
theorem scan_step {l : List UInt8} (hl : l ≠ []) (a : Nat) (adj : Bool) : scan l a adj = (tkOf l a ++ (scan (l.drop (piece l).2.1) (a + (piece l).2.1) (adjOf l)).1, pbOf l a adj ++ (scan (l.drop (piece l).2.1) (a + (piece l).2.1) (adjOf l)).2) := by
  cases l with
  | nil => exact absurd rfl hl
  | cons c t =>
    have := piece_pos c t
    unfold scan
    simp only [List.length_cons, scanF]
    rw [scanF_fuel t.length _ _ _ _ (by simp; omega) (Nat.le_refl _)]

def toksL (l : List UInt8) : List Tk := (scan l 0 false).1 ++ [⟨6, [], l.length⟩]
def probsL (l : List UInt8) : List Pb := (scan l 0 false).2.take 32

def tokA (t : Tk) : AV := .agg [.int .i64 t.kind, .str t.text, .int .i64 t.at_]
def pbA (p : Pb) : AV := .agg [.int .i64 p.at_, .int .i64 p.code]
end Go.Abs.L8

namespace Go.Abs
open Go.Proofs
def nAn : Anns := ⟨nA, nA⟩
end Go.Abs

namespace Go.Abs
open Go.Proofs L8

def keptClasses : List AV := (List.range 256).map fun c => .int .u8 (cls c)
def keptClassesA : AV := .agg keptClasses
def bytesD (es : List AV) : List UInt8 := (unBytes es).getD []
theorem bytesD_mk (bs : List UInt8) : bytesD (bytesL bs) = bs := by simp only [bytesD, unBytes_mk, Option.getD_some]

/-- lexer.Tokens$1: report -/
def s25 : ISpec := fun args S => match args, S with
  | [.int .i64 code, .ptr 0 0, .ptr 2 0], ⟨[some [.sl 2 es (.tok 1)], some cs, some [.int .i64 a]], [p, (n, 43)]⟩ =>
    some (n = es.length ∧ cs = keptClasses ∧ es.length ≤ 1000000, .tup [], ⟨[some [.sl 2 (if es.length < 32 then es ++ [.agg [.int .i64 a, .int .i64 code]] else es) (.tok 1)], some cs, some [.int .i64 a]], [p, (if es.length < 32 then n + 1 else n, 43)]⟩)
  | _, _ => none
def inCls (ps : List AV) (c : UInt8) : Bool := (bytesD ps).any fun p => p.toNat == cls c.toNat
def runL (ps : List AV) (l : List UInt8) : Nat := (l.takeWhile (inCls ps)).length
/-- lexer.piece$1: run -/
def s41 : ISpec := fun args S => match args, S with
  | [.int .i64 n, .sl 1 ps .full, .ptr 3 0, .ptr 4 0], ⟨[some b0, some cs, some b2, some [.sl 1 es .no], some [.ptr 1 0]], [p, q]⟩ =>
    some (cs = keptClasses ∧ (b0.all (AV.p0 5) = true ∧ b2.all (AV.p0 5) = true) ∧ (∃ bs, es = bytesL bs ∧ bs.length ≤ 1000000 ∧ 0 ≤ n ∧ n ≤ bs.length) ∧ (∃ qs, ps = bytesL qs ∧ qs ≠ []), .int .i64 (n + runL ps ((bytesD es).drop n.toNat)), ⟨[some b0, some cs, some b2, some [.sl 1 es .no], some [.ptr 1 0]], [p, q]⟩)
  | _, _ => none
def s26 : ISpec := fun args S => match args, S with
  | [.sl 1 es .no, .int .i64 n, .ptr 1 0], ⟨[some b0, some cs, some b2], [p, q]⟩ =>
    some (cs = keptClasses ∧ (b0.all (AV.p0 3) = true ∧ b2.all (AV.p0 3) = true) ∧ (∃ bs, es = bytesL bs ∧ bs.length ≤ 1000000 ∧ 0 ≤ n ∧ n < bs.length), .tup [.int .i64 (piece ((bytesD es).drop n.toNat)).1, .int .i64 (n + (piece ((bytesD es).drop n.toNat)).2.1), .int .i64 (piece ((bytesD es).drop n.toNat)).2.2], ⟨[some b0, some cs, some b2], [p, q]⟩)
  | _, _ => none
def onBytes (es : List AV) (f : List UInt8 → Option (AV × List (Nat × TypeId))) : Option (AV × List (Nat × TypeId)) :=
  match unBytes es with
  | some bs => f bs
  | none => none
def s42 : Spec := fun args => match args with
  | [.sl sz es .no, .int .u8 c] | [.sl sz es .full, .int .u8 c] => if sz = 1 ∧ es ≠ [] then onBytes es fun bs => some (.int .i64 (Lib.indexByte bs c.toNat.toUInt8), []) else none
  | _ => none
def s46 : Spec := sIndexByteString
/-- bytes.IndexAny at a quote and the end of a line -/
def s44 : Spec := fun args => match args with
  | [.sl sz es .no, .str [34, 10]] => if sz = 1 then onBytes es fun bs => if bs.length ≤ 1000000 then some (.int .i64 (if (bs.takeWhile lineB).length < bs.length then ((bs.takeWhile lineB).length : Int) else -1), []) else none else none
  | _ => none
def s45 : Spec := fun args => match args with
  | [.sl sz es .no] => if sz = 1 then onBytes es fun bs => if bs.length ≤ 1000000 then some (.int .i64 (txtErr bs), []) else none else none
  | _ => none
/-- digits -/
def intB (l : List UInt8) : Bool := decide (l ≠ []) && l.all digitB
/-- digits, a point, digits -/
def decB (l : List UInt8) : Bool :=
  let a := l.takeWhile digitB
  decide (a ≠ []) && decide (l[a.length]? = some 46) && intB (l.drop (a.length + 1))
def decVal (s : List UInt8) : Nat :=
  let a := s.takeWhile digitB
  let b := s.drop (a.length + 1)
  valL (a ++ b) * 10 ^ (6 - b.length)
def s43 : Spec := fun args => match args with
  | [.int .i64 k, .str l] =>
    if l.length ≤ 1000000 then
      if k = 3 ∧ decB l = true then some (.int .i64 (decErr l), []) else if k = 2 ∧ intB l = true then some (.int .i64 (intErr l), []) else none
    else none
  | _ => none
def s24k : Spec := fun args => match args with
  | [] => some (keptClassesA, [])
  | _ => none
def s8' : Spec := fun args => match args with
  | [.str l] => if l.length ≤ 1000000 ∧ decB l = true then some (.tup [.int .i64 (if decErr l = 0 then decVal l else 0), .int .i64 (decErr l)], []) else none
  | _ => none
def s30' : Spec := fun args => match args with
  | [.str l] => if l.length ≤ 1000000 ∧ intB l = true then some (if valL l ≤ 9223372036854775807 then (.tup [.int .i64 (valL l), .lit .nilIface], []) else (.tup [.int .i64 9223372036854775807, .ifc], [])) else none
  | _ => none
def shTI : Sh × Option TypeId := (.tup [.one (.int .i64), .one (.int .i64)], none)
def shTE : Sh × Option TypeId := (.tup [.one (.int .i64), .one .err], none)
def shCls : Sh × Option TypeId := (.val (.one (.is keptClassesA)), none)
def XL : Shapes := fun f => match f with
  | 42 | 43 | 44 | 45 | 46 | 62 | 69 | 61 => some shI
  | 24 => some shCls
  | 8 => some shTI
  | 30 => some shTE
  | _ => none
def badA (l : List Pb) (o : Own) : AV := .sl 2 (l.map pbA) o
def tkA (l : List Tk) (o : Own) : AV := .sl 3 (l.map tokA) o
structure X7 where
  l : List Tk
  b : List Pb
  p : Nat
  adj : Bool
  st : Int
  code : Int
def stAt (x : X7) : St := ⟨[some [badA (x.b.take 32) (.tok 1)], some keptClasses, some [.int .i64 x.p]], [(x.l.length, 34), ((x.b.take 32).length, 43)]⟩
/-- what was read so far, what is to come -/
structure Inv7 (bs : List UInt8) (x : X7) : Prop where
  small : bs.length ≤ 16384
  len : x.l.length ≤ x.p
  p : x.p ≤ bs.length
  l : x.l ++ (scan (bs.drop x.p) x.p x.adj).1 = (scan bs 0 false).1
  b : x.b ++ (scan (bs.drop x.p) x.p x.adj).2 = (scan bs 0 false).2
  st : x.adj = true ↔ (x.st = x.p - 1 ∧ x.p ≠ 0)
  lt : -1 ≤ x.st ∧ x.st < x.p
structure Inv7b (bs : List UInt8) (x : X7) : Prop where
  inv : Inv7 bs x
  p : x.p < bs.length
  un : (piece (bs.drop x.p)).1 = -1
  code : x.code = 80
def a7 (bs : List UInt8) : Anns := ⟨nA, fun k => match k with
  | 0 => some { α := X7, slots := [0, 2, 3, 4, 5, 6, 7, 8], nb := 3, vals := fun x => [bytesA bs, tkA x.l (.tok 0), .ptr 0 0, .int .i64 0, .ptr 1 0, .ptr 2 0, .int .i64 x.st, .fn 25 [.ptr 0 0, .ptr 2 0]], sS := stAt, I := Inv7 bs, μ := fun x => 2 * (bs.length - x.p) + 1, mint := [(2, 34)], mintB := [(0, 43)] }
  | 1 => some { α := X7, slots := [0, 2, 3, 4, 5, 6, 7, 8, 11], nb := 3, vals := fun x => [bytesA bs, tkA x.l (.tok 0), .ptr 0 0, .int .i64 0, .ptr 1 0, .ptr 2 0, .int .i64 x.st, .fn 25 [.ptr 0 0, .ptr 2 0], .int .i64 x.code], sS := stAt, I := Inv7b bs, μ := fun x => 2 * (bs.length - x.p) }
  | _ => none⟩
def S41 (b0 b2 : List AV) (es : List AV) (p q : Nat × TypeId) : St := ⟨[some b0, some keptClasses, some b2, some [.sl 1 es .no], some [.ptr 1 0]], [p, q]⟩
def S26 (b0 b2 : List AV) (p q : Nat × TypeId) : St := ⟨[some b0, some keptClasses, some b2], [p, q]⟩
def a41 (n : Int) (ps : List AV) (o : Own) (bs : List UInt8) (S : St) : Anns := ⟨fun k => if k = 1 then some { α := Nat, slots := [0, 1, 2, 3], nb := 5, vals := fun j => [.int .i64 (n + j), .sl 1 ps o, .ptr 3 0, .ptr 4 0], sS := fun _ => S, I := fun j => j ≤ runL ps (bs.drop n.toNat), μ := fun j => (bs.length - n - j).toNat } else none, nA⟩
def a45 (bs : List UInt8) : Anns := ⟨fun k => if k = 4 then some { α := Nat, slots := [8, 9, 10], nb := 0, vals := fun j => [bytesA bs, .int .i64 bs.length, .int .i64 j], sS := fun _ => ⟨[], []⟩, I := fun j => j ≤ bs.length ∧ (bs.take j).any badB = false, μ := fun j => bs.length - j } else none, nA⟩
def t29 : List (FuncId × Spec) := [(42, s42), (43, s43), (44, s44), (45, s45), (46, s46)]
def t12 : List (FuncId × Spec) := [(24, s24k)]
end Go.Abs

namespace Go.Abs
open Go.Proofs L8

def keptSet : List AV := (List.range 256).map fun c => .bool (decide (c = 10 ∨ c = 34))
def keptSetA : AV := .agg keptSet
def onBs (f : List UInt8 → Option (AV × List (Nat × TypeId))) : Spec := fun args => match args with
  | [.sl sz es .no] => if sz = 1 then onBytes es f else none
  | _ => none
def decA (bs : List UInt8) : AV := .tup [.int .i32 (decodeL bs 0).1, .int .i64 (decodeL bs 0).2]
def hiB (bs : List UInt8) : Prop := ∃ c t, bs = c :: t ∧ 128 ≤ c.toNat
instance (bs : List UInt8) : Decidable (hiB bs) := match bs with
  | [] => .isFalse fun ⟨_, _, h, _⟩ => nomatch h
  | c :: t => if h : 128 ≤ c.toNat then .isTrue ⟨c, t, rfl, h⟩ else .isFalse fun ⟨_, _, h1, h2⟩ => by injection h1 with h1 h3; subst h1; exact h h2
def s85 : Spec := onBs fun bs => if hiB bs ∧ bs.length ≤ 1000000 then some (decA bs, []) else none
def s67 : Spec := onBs fun bs => if bs ≠ [] ∧ bs.length ≤ 1000000 then some (decA bs, []) else none
def s64 : Spec := fun args => match args with
  | [.int .i64 n] => some (.bool (decide (8 < n)), [])
  | _ => none
def s65 : Spec := fun args => match args with
  | [.str [34, 10]] => some (.tup [keptSetA, .bool true], [])
  | _ => none
def s66 : ISpec := fun args S => match args, S with
  | [.ptr 0 0, .int .u8 c], ⟨[some cs], []⟩ => some (cs = keptSet ∧ 0 ≤ c ∧ c < 256, .bool (decide (c = 10 ∨ c = 34)), ⟨[some cs], []⟩)
  | _, _ => none
def s68 (m : Int) : Spec := fun args => match args with
  | [.str a, .str b] => if 2 ≤ b.length ∧ (b.length : Int) ≤ m ∧ a.length < 4294967281 then some (.int .i64 (Lib.index a b), []) else none
  | _ => none
def shDec : Sh × Option TypeId := (.tup [.one (.int .i32), .one (.int .i64)], none)
def XA : Shapes := fun f => match f with
  | 62 | 68 => some shI
  | 64 => some shB
  | 65 => some (.tup [.one (.is keptSetA), .one (.is (.bool true))], none)
  | 67 | 85 => some shDec
  | _ => none
def stL (bs : List UInt8) : Nat := (bs.takeWhile lineB).length
def a67 (bs : List UInt8) : Anns := ⟨fun k => if k = 2 then some { α := Unit, slots := [0, 6, 7, 8], nb := 0, vals := fun _ => [bytesA bs, bytesA bs, .int .i64 bs.length, .int .i64 0], sS := fun _ => ⟨[], []⟩, I := fun _ => True, μ := fun _ => 0 } else none, nA⟩
def a44 (bs : List UInt8) : Anns := ⟨fun k => match k with
  | 24 => some { α := Nat, slots := [7, 60, 61, 62], nb := 1, vals := fun i => [.ptr 0 0, bytesA bs, .int .i64 bs.length, .int .i64 i], sS := fun _ => ⟨[some keptSet], []⟩, I := fun i => i ≤ stL bs, μ := fun i => bs.length - i }
  | 32 => some { α := Nat, slots := [0, 1, 12], nb := 0, vals := fun i => [bytesA bs, .str [34, 10], .int .i64 i], sS := fun _ => ⟨[], []⟩, I := fun i => i ≤ stL bs, μ := fun i => bs.length - i }
  | 48 | 7 => some { α := Unit, slots := [], nb := 0, vals := fun _ => [], sS := fun _ => ⟨[], []⟩, I := fun _ => False, μ := fun _ => 0, unroll := 3 }
  | _ => none, nA⟩
end Go.Abs

namespace Go.Abs
open Go.Proofs L8
theorem w64 (m n : Int) : (pureW PP (G8 m) XA (tbl []) (itbl []) nAn [] 64 [.int .i64 n] (.bool (decide (8 < n)), [])) =
((decide (n > (8 : Int)) = true → RetIs (AV.bool true) [] (AV.bool (decide ((8 : Int) < n)), [])) ∧
  (decide (n > (8 : Int)) = false → RetIs (AV.bool false) [] (AV.bool (decide ((8 : Int) < n)), []))) := by kernel_rfl
theorem w66 (m c : Int) : (openW PP (G8 m) XA (tbl []) (itbl []) nAn [] 66 [.ptr 0 0, .int .u8 c] ⟨[some keptSet], []⟩ (.bool (decide (c = 10 ∨ c = 34)), ⟨[some keptSet], []⟩)) =
(((0 : Int) ≤ c ∧ c < (256 : Int)) ∧
  ∃ (b : Bool),
    takeA (some false) (some (nat_lit 1)) keptSet (nat_lit 0 + c.toNat * nat_lit 1) = some (AV.bool b) ∧
      (b = true →
 RetOpen (AV.p2 (nat_lit 1) (AV.bool true) && true) (AV.bool true) { boxes := [some keptSet], live := [] }
 (AV.bool (decide (c = (10 : Int) ∨ c = (34 : Int))), { boxes := [some keptSet], live := [] })) ∧
        (b = false →
 RetOpen (AV.p2 (nat_lit 1) (AV.bool false) && true) (AV.bool false) { boxes := [some keptSet], live := [] }
 (AV.bool (decide (c = (10 : Int) ∨ c = (34 : Int))), { boxes := [some keptSet], live := [] }))) := by kernel_rfl
theorem w85 (m : Int) (bs : List UInt8) : (pureW PP (G8 m) XA (tbl []) (itbl []) nAn [] 85 [.sl 1 (bytesL bs) .no] (decA bs, [])) =
((decide ((↑(bytesL bs).length : Int) < (1 : Int)) = true →
    RetIs (AV.tup [AV.int IntKind.i32 (65533 : Int), AV.int IntKind.i64 (0 : Int)]) []
      (AV.tup [AV.int IntKind.i32 (↑(decodeL bs (nat_lit 0)).fst : Int), AV.int IntKind.i64 (↑(decodeL bs (nat_lit 0)).snd : Int)], [])) ∧
  (decide ((↑(bytesL bs).length : Int) < (1 : Int)) = false →
    ((0 : Int) ≤ (0 : Int) ∧ (0 : Int) < (↑(bytesL bs).length : Int)) ∧
      ∃ (n : Int),
        takeAt PP (nat_lit 5) (bytesL bs) (nat_lit 0) (nat_lit 0) = some (AV.int IntKind.u8 n) ∧
 ((0 : Int) ≤ n ∧ n < (256 : Int)) ∧
 ∃ (n_1 : Int),
 takeAt PP (nat_lit 5) [keptFirstA] (nat_lit 0) (nat_lit 0 + n.toNat * nat_lit 1) = some (AV.int IntKind.u8 n_1) ∧
 (decide (n_1 ≥ (240 : Int)) = true →
 (0 : Int) ≤ (31 : Int) ∧
 (0 : Int) ≤ (31 : Int) ∧
 ((0 : Int) ≤ (0 : Int) ∧ (0 : Int) < (↑(bytesL bs).length : Int)) ∧
 ∃ (n : Int),
 takeAt PP (nat_lit 5) (bytesL bs) (nat_lit 0) (nat_lit 0) = some (AV.int IntKind.u8 n) ∧
 RetIs
 (AV.tup
 [AV.int IntKind.i32
 (IntKind.i32.wrap
 (↑(BitVec.ofInt IntKind.i32.bits
 (IntKind.i32.wrap
 (↑((fun (x y : BitVec IntKind.i32.bits) => x &&& ~~~y) (BitVec.ofInt IntKind.i32.bits (IntKind.i32.wrap n))
 (BitVec.ofInt IntKind.i32.bits
 ((IntKind.i32.wrap (IntKind.i32.wrap n_1 * (2147483648 : Int))).fdiv (2147483648 : Int)))).toNat :
 Int)) |||
 BitVec.ofInt IntKind.i32.bits
 (IntKind.i32.wrap
 (↑((fun (x1 x2 : BitVec IntKind.i32.bits) => x1 &&& x2) (BitVec.ofInt IntKind.i32.bits (65533 : Int))
 (BitVec.ofInt IntKind.i32.bits
 ((IntKind.i32.wrap (IntKind.i32.wrap n_1 * (2147483648 : Int))).fdiv (2147483648 : Int)))).toNat :
 Int))).toNat :
 Int)),
 AV.int IntKind.i64 (1 : Int)])
 []
 (AV.tup [AV.int IntKind.i32 (↑(decodeL bs (nat_lit 0)).fst : Int), AV.int IntKind.i64 (↑(decodeL bs (nat_lit 0)).snd : Int)],
 [])) ∧
 (decide (n_1 ≥ (240 : Int)) = false →
 (0 : Int) ≤ (4 : Int) ∧
 ((0 : Int) ≤ n_1.fdiv (16 : Int) ∧ n_1.fdiv (16 : Int) < (16 : Int)) ∧
 ∃ (n_2 : Int),
 ∃ (n_3 : Int),
 takeAt PP (nat_lit 124) [keptAccA] (nat_lit 0) (nat_lit 0 + (n_1.fdiv (16 : Int)).toNat * nat_lit 2) =
 some (AV.agg [AV.int IntKind.u8 n_2, AV.int IntKind.u8 n_3]) ∧
 (decide
 ((↑(bytesL bs).length : Int) <
 IntKind.i64.wrap
 (IntKind.u8.wrap (↑(BitVec.ofInt IntKind.u8.bits n_1 &&& BitVec.ofInt IntKind.u8.bits (7 : Int)).toNat : Int))) =
 true →
 RetIs (AV.tup [AV.int IntKind.i32 (65533 : Int), AV.int IntKind.i64 (1 : Int)]) []
 (AV.tup
 [AV.int IntKind.i32 (↑(decodeL bs (nat_lit 0)).fst : Int), AV.int IntKind.i64 (↑(decodeL bs (nat_lit 0)).snd : Int)],
 [])) ∧
 (decide
 ((↑(bytesL bs).length : Int) <
 IntKind.i64.wrap
 (IntKind.u8.wrap (↑(BitVec.ofInt IntKind.u8.bits n_1 &&& BitVec.ofInt IntKind.u8.bits (7 : Int)).toNat : Int))) =
 false →
 ((0 : Int) ≤ (1 : Int) ∧ (1 : Int) < (↑(bytesL bs).length : Int)) ∧
 ∃ (n_4 : Int),
 takeAt PP (nat_lit 5) (bytesL bs) (nat_lit 1) (nat_lit 0) = some (AV.int IntKind.u8 n_4) ∧
 (decide (n_4 < n_2) = true →
 RetIs (AV.tup [AV.int IntKind.i32 (65533 : Int), AV.int IntKind.i64 (1 : Int)]) []
 (AV.tup
 [AV.int IntKind.i32 (↑(decodeL bs (nat_lit 0)).fst : Int),
 AV.int IntKind.i64 (↑(decodeL bs (nat_lit 0)).snd : Int)],
 [])) ∧
 (decide (n_4 < n_2) = false →
 (decide (n_3 < n_4) = true →
 RetIs (AV.tup [AV.int IntKind.i32 (65533 : Int), AV.int IntKind.i64 (1 : Int)]) []
 (AV.tup
 [AV.int IntKind.i32 (↑(decodeL bs (nat_lit 0)).fst : Int),
 AV.int IntKind.i64 (↑(decodeL bs (nat_lit 0)).snd : Int)],
 [])) ∧
 (decide (n_3 < n_4) = false →
 (decide
 (IntKind.i64.wrap
 (IntKind.u8.wrap
 (↑(BitVec.ofInt IntKind.u8.bits n_1 &&& BitVec.ofInt IntKind.u8.bits (7 : Int)).toNat : Int)) ≤
 (2 : Int)) =
 true →
 (0 : Int) ≤ (6 : Int) ∧
 RetIs
 (AV.tup
 [AV.int IntKind.i32
 (IntKind.i32.wrap
 (↑(BitVec.ofInt IntKind.i32.bits
 (IntKind.i32.wrap
 (IntKind.i32.wrap
 (IntKind.u8.wrap
 (↑((fun (x1 x2 : BitVec IntKind.u8.bits) => x1 &&& x2)
 (BitVec.ofInt IntKind.u8.bits n)
 (BitVec.ofInt IntKind.u8.bits (31 : Int))).toNat :
 Int)) *
 (2 : Int) ^ min (Int.toNat (6 : Int)) IntKind.i32.bits)) |||
 BitVec.ofInt IntKind.i32.bits
 (IntKind.i32.wrap
 (IntKind.u8.wrap
 (↑((fun (x1 x2 : BitVec IntKind.u8.bits) => x1 &&& x2)
 (BitVec.ofInt IntKind.u8.bits n_4)
 (BitVec.ofInt IntKind.u8.bits (63 : Int))).toNat :
 Int)))).toNat :
 Int)),
 AV.int IntKind.i64 (2 : Int)])
 []
 (AV.tup
 [AV.int IntKind.i32 (↑(decodeL bs (nat_lit 0)).fst : Int),
 AV.int IntKind.i64 (↑(decodeL bs (nat_lit 0)).snd : Int)],
 [])) ∧
 (decide
 (IntKind.i64.wrap
 (IntKind.u8.wrap
 (↑(BitVec.ofInt IntKind.u8.bits n_1 &&& BitVec.ofInt IntKind.u8.bits (7 : Int)).toNat : Int)) ≤
 (2 : Int)) =
 false →
 ((0 : Int) ≤ (2 : Int) ∧ (2 : Int) < (↑(bytesL bs).length : Int)) ∧
 ∃ (n_5 : Int),
 takeAt PP (nat_lit 5) (bytesL bs) (nat_lit 2) (nat_lit 0) = some (AV.int IntKind.u8 n_5) ∧
 (decide (n_5 < (128 : Int)) = true →
 RetIs (AV.tup [AV.int IntKind.i32 (65533 : Int), AV.int IntKind.i64 (1 : Int)]) []
 (AV.tup
 [AV.int IntKind.i32 (↑(decodeL bs (nat_lit 0)).fst : Int),
 AV.int IntKind.i64 (↑(decodeL bs (nat_lit 0)).snd : Int)],
 [])) ∧
 (decide (n_5 < (128 : Int)) = false →
 (decide ((191 : Int) < n_5) = true →
 RetIs (AV.tup [AV.int IntKind.i32 (65533 : Int), AV.int IntKind.i64 (1 : Int)]) []
 (AV.tup
 [AV.int IntKind.i32 (↑(decodeL bs (nat_lit 0)).fst : Int),
 AV.int IntKind.i64 (↑(decodeL bs (nat_lit 0)).snd : Int)],
 [])) ∧
 (decide ((191 : Int) < n_5) = false →
 (decide
 (IntKind.i64.wrap
 (IntKind.u8.wrap
 (↑(BitVec.ofInt IntKind.u8.bits n_1 &&&
 BitVec.ofInt IntKind.u8.bits (7 : Int)).toNat :
 Int)) ≤
 (3 : Int)) =
 true →
 (0 : Int) ≤ (12 : Int) ∧
 (0 : Int) ≤ (6 : Int) ∧
 RetIs
 (AV.tup
 [AV.int IntKind.i32
 (IntKind.i32.wrap
 (↑(BitVec.ofInt IntKind.i32.bits
 (IntKind.i32.wrap
 (↑((fun (x1 x2 : BitVec IntKind.i32.bits) => x1 ||| x2)
 (BitVec.ofInt IntKind.i32.bits
 (IntKind.i32.wrap
 (IntKind.i32.wrap
 (IntKind.u8.wrap
 (↑((fun (x1 x2 : BitVec IntKind.u8.bits) =>
 x1 &&& x2)
 (BitVec.ofInt IntKind.u8.bits n)
 (BitVec.ofInt IntKind.u8.bits
 (15 : Int))).toNat :
 Int)) *
 (2 : Int) ^
 min (Int.toNat (12 : Int)) IntKind.i32.bits)))
 (BitVec.ofInt IntKind.i32.bits
 (IntKind.i32.wrap
 (IntKind.i32.wrap
 (IntKind.u8.wrap
 (↑((fun (x1 x2 : BitVec IntKind.u8.bits) =>
 x1 &&& x2)
 (BitVec.ofInt IntKind.u8.bits n_4)
 (BitVec.ofInt IntKind.u8.bits
 (63 : Int))).toNat :
 Int)) *
 (2 : Int) ^
 min (Int.toNat (6 : Int))
 IntKind.i32.bits)))).toNat :
 Int)) |||
 BitVec.ofInt IntKind.i32.bits
 (IntKind.i32.wrap
 (IntKind.u8.wrap
 (↑((fun (x1 x2 : BitVec IntKind.u8.bits) => x1 &&& x2)
 (BitVec.ofInt IntKind.u8.bits n_5)
 (BitVec.ofInt IntKind.u8.bits (63 : Int))).toNat :
 Int)))).toNat :
 Int)),
 AV.int IntKind.i64 (3 : Int)])
 []
 (AV.tup
 [AV.int IntKind.i32 (↑(decodeL bs (nat_lit 0)).fst : Int),
 AV.int IntKind.i64 (↑(decodeL bs (nat_lit 0)).snd : Int)],
 [])) ∧
 (decide
 (IntKind.i64.wrap
 (IntKind.u8.wrap
 (↑(BitVec.ofInt IntKind.u8.bits n_1 &&&
 BitVec.ofInt IntKind.u8.bits (7 : Int)).toNat :
 Int)) ≤
 (3 : Int)) =
 false →
 ((0 : Int) ≤ (3 : Int) ∧ (3 : Int) < (↑(bytesL bs).length : Int)) ∧
 ∃ (n_6 : Int),
 takeAt PP (nat_lit 5) (bytesL bs) (nat_lit 3) (nat_lit 0) =
 some (AV.int IntKind.u8 n_6) ∧
 (decide (n_6 < (128 : Int)) = true →
 RetIs (AV.tup [AV.int IntKind.i32 (65533 : Int), AV.int IntKind.i64 (1 : Int)])
 []
 (AV.tup
 [AV.int IntKind.i32 (↑(decodeL bs (nat_lit 0)).fst : Int),
 AV.int IntKind.i64 (↑(decodeL bs (nat_lit 0)).snd : Int)],
 [])) ∧
 (decide (n_6 < (128 : Int)) = false →
 (decide ((191 : Int) < n_6) = true →
 RetIs
 (AV.tup [AV.int IntKind.i32 (65533 : Int), AV.int IntKind.i64 (1 : Int)])
 []
 (AV.tup
 [AV.int IntKind.i32 (↑(decodeL bs (nat_lit 0)).fst : Int),
 AV.int IntKind.i64 (↑(decodeL bs (nat_lit 0)).snd : Int)],
 [])) ∧
 (decide ((191 : Int) < n_6) = false →
 (0 : Int) ≤ (18 : Int) ∧
 (0 : Int) ≤ (12 : Int) ∧
 (0 : Int) ≤ (6 : Int) ∧
 RetIs
 (AV.tup
 [AV.int IntKind.i32
 (IntKind.i32.wrap
 (↑(BitVec.ofInt IntKind.i32.bits
 (IntKind.i32.wrap
 (↑((fun (x1 x2 : BitVec IntKind.i32.bits) =>
 x1 ||| x2)
 (BitVec.ofInt IntKind.i32.bits
 (IntKind.i32.wrap
 (↑((fun
 (x1 x2 :
 BitVec
 IntKind.i32.bits) =>
 x1 ||| x2)
 (BitVec.ofInt
 IntKind.i32.bits
 (IntKind.i32.wrap
 (IntKind.i32.wrap
 (IntKind.u8.wrap
 (↑((fun
 (x1
 x2 :
 BitVec
 IntKind.u8.bits) =>
 x1 &&&
 x2)
 (BitVec.ofInt
 IntKind.u8.bits
 n)
 (BitVec.ofInt
 IntKind.u8.bits
 (7 :
 Int))).toNat :
 Int)) *
 (2 : Int) ^
 min
 (Int.toNat
 (18 : Int))
 IntKind.i32.bits)))
 (BitVec.ofInt
 IntKind.i32.bits
 (IntKind.i32.wrap
 (IntKind.i32.wrap
 (IntKind.u8.wrap
 (↑((fun
 (x1
 x2 :
 BitVec
 IntKind.u8.bits) =>
 x1 &&&
 x2)
 (BitVec.ofInt
 IntKind.u8.bits
 n_4)
 (BitVec.ofInt
 IntKind.u8.bits
 (63 :
 Int))).toNat :
 Int)) *
 (2 : Int) ^
 min
 (Int.toNat
 (12 : Int))
 IntKind.i32.bits)))).toNat :
 Int)))
 (BitVec.ofInt IntKind.i32.bits
 (IntKind.i32.wrap
 (IntKind.i32.wrap
 (IntKind.u8.wrap
 (↑((fun
 (x1 x2 :
 BitVec
 IntKind.u8.bits) =>
 x1 &&& x2)
 (BitVec.ofInt
 IntKind.u8.bits n_5)
 (BitVec.ofInt
 IntKind.u8.bits
 (63 : Int))).toNat :
 Int)) *
 (2 : Int) ^
 min (Int.toNat (6 : Int))
 IntKind.i32.bits)))).toNat :
 Int)) |||
 BitVec.ofInt IntKind.i32.bits
 (IntKind.i32.wrap
 (IntKind.u8.wrap
 (↑((fun (x1 x2 : BitVec IntKind.u8.bits) =>
 x1 &&& x2)
 (BitVec.ofInt IntKind.u8.bits n_6)
 (BitVec.ofInt IntKind.u8.bits
 (63 : Int))).toNat :
 Int)))).toNat :
 Int)),
 AV.int IntKind.i64 (4 : Int)])
 []
 (AV.tup
 [AV.int IntKind.i32 (↑(decodeL bs (nat_lit 0)).fst : Int),
 AV.int IntKind.i64 (↑(decodeL bs (nat_lit 0)).snd : Int)],
 []))))))))))))) := by kernel_rfl
theorem w67 (m : Int) (bs : List UInt8) : (pureW PP (G8 m) XA (tbl [(85, s85)]) (itbl []) (a67 bs) [] 67 [.sl 1 (bytesL bs) .no] (decA bs, [])) =
((∃ (_y : Unit),
    ValsAre
        [AV.sl (nat_lit 1) (bytesL bs) Own.no, AV.sl (nat_lit 1) (bytesL bs) Own.no, AV.int IntKind.i64 (↑(bytesL bs).length : Int),
 AV.int IntKind.i64 (0 : Int)]
        [AV.sl (nat_lit 1) (bytesL bs) Own.no, AV.sl (nat_lit 1) (bytesL bs) Own.no, AV.int IntKind.i64 (↑bs.length : Int), AV.int IntKind.i64 (0 : Int)] ∧
      StIs { boxes := [], live := [] } { boxes := [], live := [] } ∧ True ∧ True) ∧
  ∀ (_x : Unit),
    True →
      (decide ((0 : Int) < (↑bs.length : Int)) = true →
 ((0 : Int) ≤ (0 : Int) ∧ (0 : Int) < (↑(bytesL bs).length : Int)) ∧
 ∃ (n : Int),
 takeAt PP (nat_lit 5) (bytesL bs) (nat_lit 0) (nat_lit 0) = some (AV.int IntKind.u8 n) ∧
 (decide (n < (128 : Int)) = true →
 RetIs (AV.tup [AV.int IntKind.i32 (IntKind.i32.wrap n), AV.int IntKind.i64 (1 : Int)]) []
 (AV.tup [AV.int IntKind.i32 (↑(decodeL bs (nat_lit 0)).fst : Int), AV.int IntKind.i64 (↑(decodeL bs (nat_lit 0)).snd : Int)], [])) ∧
 (decide (n < (128 : Int)) = false →
 ∃ (n : Int),
 ∃ (n_1 : Int),
 CallIs (tbl [(nat_lit 85, s85)] (nat_lit 85) [AV.sl (nat_lit 1) (bytesL bs) Own.no])
 (AV.tup [AV.int IntKind.i32 n, AV.int IntKind.i64 n_1]) [] ∧
 RetIs (AV.tup [AV.int IntKind.i32 n, AV.int IntKind.i64 n_1]) []
 (AV.tup [AV.int IntKind.i32 (↑(decodeL bs (nat_lit 0)).fst : Int), AV.int IntKind.i64 (↑(decodeL bs (nat_lit 0)).snd : Int)],
 []))) ∧
        (decide ((0 : Int) < (↑bs.length : Int)) = false →
 ∃ (n : Int),
 ∃ (n_1 : Int),
 CallIs (tbl [(nat_lit 85, s85)] (nat_lit 85) [AV.sl (nat_lit 1) (bytesL bs) Own.no]) (AV.tup [AV.int IntKind.i32 n, AV.int IntKind.i64 n_1]) [] ∧
 RetIs (AV.tup [AV.int IntKind.i32 n, AV.int IntKind.i64 n_1]) []
 (AV.tup [AV.int IntKind.i32 (↑(decodeL bs (nat_lit 0)).fst : Int), AV.int IntKind.i64 (↑(decodeL bs (nat_lit 0)).snd : Int)], []))) := by kernel_rfl
end Go.Abs

namespace Go.Abs
open Go.Proofs L8

def valF (n : Nat) (l : List UInt8) : Nat := l.foldl (fun n c => 10 * n + (c.toNat - 48)) n
theorem valL_eq (l : List UInt8) : valL l = valF 0 l := rfl
theorem valF_ge : ∀ (l : List UInt8) (n : Nat), n ≤ valF n l
  | [], n => Nat.le_refl _
  | c :: l, n => by
    have := valF_ge l (10 * n + (c.toNat - 48))
    simp only [valF, List.foldl_cons] at this ⊢
    omega
theorem digitB_iff {c : UInt8} : digitB c = true ↔ 48 ≤ c.toNat ∧ c.toNat ≤ 57 := by simp [digitB]
theorem parse_digits : ∀ (l : List UInt8) (n : Nat), l.all digitB = true → n < 18446744073709551616 →
    Lib.parseUint10 n l = if valF n l < 18446744073709551616 then .ok (valF n l) else .range
  | [], n, _, hn => by simp [Lib.parseUint10, valF, hn]
  | c :: l, n, hd, hn => by
    simp only [List.all_cons, Bool.and_eq_true, digitB_iff] at hd
    have hv : valF n (c :: l) = valF (10 * n + (c.toNat - 48)) l := rfl
    have hge := valF_ge l (10 * n + (c.toNat - 48))
    simp only [Lib.parseUint10]
    rw [if_pos hd.1, hv]
    by_cases h1 : 1844674407370955162 ≤ n
    · rw [if_pos h1, if_neg (by omega)]
    · rw [if_neg h1]
      by_cases h2 : 18446744073709551616 ≤ n * 10 + (c.toNat - 48)
      · rw [if_pos h2, if_neg (by omega)]
      · rw [if_neg h2, Nat.mul_comm n 10]
        exact parse_digits l _ hd.2 (by omega)
theorem atoi_digits {l : List UInt8} (h : intB l = true) : Lib.atoiAll l = if valL l ≤ 9223372036854775807 then .ok (valL l : Int) else .range := by
  simp only [intB, Bool.and_eq_true, decide_eq_true_eq] at h
  obtain ⟨h1, h2⟩ := h
  cases l with
  | nil => exact absurd rfl h1
  | cons c r =>
    have hc : 48 ≤ c.toNat ∧ c.toNat ≤ 57 := by
      simp only [List.all_cons, Bool.and_eq_true, digitB_iff] at h2; exact h2.1
    have hp := parse_digits (c :: r) 0 h2 (by omega)
    simp only [Lib.atoiAll, Lib.parseMag]
    rw [if_neg (show ¬ (c.toNat = 43 ∨ c.toNat = 45) by omega), if_neg (by simp), hp, valL_eq]
    by_cases h3 : valF 0 (c :: r) < 18446744073709551616
    · rw [if_pos h3]
      simp only
      by_cases h4 : valF 0 (c :: r) ≤ 9223372036854775807
      · rw [if_pos h4, if_neg (by omega), if_neg (by omega), if_neg (by omega)]
      · rw [if_neg h4, if_pos (by omega)]
    · rw [if_neg h3, if_neg (by omega)]

/-- a decimal: its millionths, its problem -/
def dstep (s : Option (List UInt8 × Option Nat)) (c : UInt8) : Option (List UInt8 × Option Nat) :=
  match s with
  | none => none
  | some (ds, k) =>
    if c = 46 ∧ k = none ∧ ds ≠ [] then some (ds, some 0)
    else if digitB c = true then some (ds ++ [c], k.map (· + 1))
    else none
def dfold (l : List UInt8) : Option (List UInt8 × Option Nat) := l.foldl dstep (some ([], none))
def decFin (neg : Bool) (v k : Nat) : Int × Int :=
  if 2 ^ 60 < v * 10 ^ (6 - k) then (0, 2) else (if neg then -((v * 10 ^ (6 - k) : Nat) : Int) else ((v * 10 ^ (6 - k) : Nat) : Int), 0)
def decR (neg : Bool) (r : List UInt8) : Int × Int :=
  match dfold r with
  | none => (0, 3)
  | some (ds, k) => if ds = [] ∨ k = some 0 ∨ 6 < k.getD 0 then (0, 3) else decFin neg (valL ds) (k.getD 0)
def negB (s : List UInt8) : Bool := s.head? == some 45
def decP (s : List UInt8) : Int × Int := decR (negB s) (if negB s then s.drop 1 else s)

theorem dfold_none (l : List UInt8) : l.foldl dstep none = none := by
  induction l with
  | nil => rfl
  | cons c l ih => simpa [dstep] using ih
theorem dfold_digits : ∀ (a : List UInt8) (ds : List UInt8) (k : Option Nat), a.all digitB = true → a.foldl dstep (some (ds, k)) = some (ds ++ a, k.map (· + a.length))
  | [], ds, k, _ => by cases k <;> simp
  | c :: a, ds, k, h => by
    simp only [List.all_cons, Bool.and_eq_true] at h
    have hc : ¬ (c = 46) := by rintro rfl; simp [digitB] at h
    rw [List.foldl_cons]
    have : dstep (some (ds, k)) c = some (ds ++ [c], k.map (· + 1)) := by
      simp only [dstep]; rw [if_neg (fun h => hc h.1), if_pos h.1]
    rw [this, dfold_digits a _ _ h.2]
    cases k <;> simp; omega
theorem dfold_point {a b : List UInt8} (ha : a.all digitB = true) (hne : a ≠ []) (hb : b.all digitB = true) : dfold (a ++ 46 :: b) = some (a ++ b, some b.length) := by
  unfold dfold
  rw [List.foldl_append, dfold_digits a [] none ha, List.foldl_cons]
  have : dstep (some ([] ++ a, Option.map (· + a.length) none)) 46 = some (a, some 0) := by
    simp [dstep, hne]
  rw [this, dfold_digits b a (some 0) hb]
  simp
theorem takeWhile_all (p : UInt8 → Bool) (l : List UInt8) : (l.takeWhile p).all p = true := by
  induction l with
  | nil => rfl
  | cons c l ih =>
    rw [List.takeWhile_cons]
    split
    · rename_i h; simp [h, ih]
    · rfl
theorem decB_split {l : List UInt8} (h : decB l = true) : ∃ a b, l = a ++ 46 :: b ∧ a.all digitB = true ∧ a ≠ [] ∧ b.all digitB = true ∧ b ≠ [] ∧ l.takeWhile digitB = a ∧ l.drop (a.length + 1) = b := by
  simp only [decB, Bool.and_eq_true, decide_eq_true_eq, intB] at h
  obtain ⟨⟨h1, h2⟩, h3, h4⟩ := h
  refine ⟨l.takeWhile digitB, l.drop ((l.takeWhile digitB).length + 1), ?_, takeWhile_all _ _, h1, h4, h3, rfl, rfl⟩
  have hlt := (List.getElem?_eq_some_iff.1 h2).1
  have hv := (List.getElem?_eq_some_iff.1 h2).2
  have e1 : l.take (l.takeWhile digitB).length = l.takeWhile digitB := (List.prefix_iff_eq_take.1 (List.takeWhile_prefix digitB)).symm
  conv => lhs; rw [← List.take_append_drop (l.takeWhile digitB).length l, e1, List.drop_eq_getElem_cons hlt, hv]
theorem negB_digit {c : UInt8} {t : List UInt8} (h : digitB c = true) : negB (c :: t) = false := by
  have : c ≠ 45 := by rintro rfl; simp [digitB] at h
  simp [negB, this]
theorem decP_decB {l : List UInt8} (h : decB l = true) : decP l = (if decErr l = 0 then (decVal l : Int) else 0, decErr l) := by
  obtain ⟨a, b, h1, h2, h3, h4, h5, h6, h7⟩ := decB_split h
  have hd := dfold_point h2 h3 h4
  rw [← h1] at hd
  have hneg : negB l = false := by
    cases a with
    | nil => exact absurd rfl h3
    | cons c t =>
      simp only [List.all_cons, Bool.and_eq_true] at h2
      rw [h1]; exact negB_digit h2.1
  have hb : 0 < b.length := List.length_pos_iff.2 h5
  simp only [decP, hneg, Bool.false_eq_true, if_false, decR, hd, decErr, decVal, h6, h7, Option.getD_some]
  by_cases h8 : 6 < b.length
  · rw [if_pos (.inr (.inr h8)), if_pos h8]; rfl
  · have hab : a ++ b ≠ [] := by simp [h3]
    have hno : ¬ (a ++ b = [] ∨ some b.length = some 0 ∨ 6 < b.length) := by
      rintro (h | h | h)
      · exact hab h
      · simp only [Option.some.injEq] at h; omega
      · exact h8 h
    rw [if_neg hno, if_neg h8]
    simp only [decFin]
    by_cases h9 : 2 ^ 60 < valL (a ++ b) * 10 ^ (6 - b.length)
    · rw [if_pos h9, if_pos h9]; rfl
    · rw [if_neg h9, if_neg h9]; rfl
end Go.Abs

namespace Go.Abs
open Go.Proofs L8
structure X8 where
  i : Nat
  ds : List UInt8
  k : Option Nat
  x : Int
  big : Bool
def ptv (i : Nat) : Option Nat → Int
  | none => -1
  | some j => (i : Int) - j - 1
structure Inv8 (r : List UInt8) (y : X8) : Prop where
  i : y.i ≤ r.length
  fold : dfold (r.take y.i) = some (y.ds, y.k)
  k : ∀ j, y.k = some j → j + 1 ≤ y.i ∧ y.ds ≠ []
  k0 : y.k = none → y.ds.length = y.i
  small : y.big = false → y.x = valL y.ds ∧ valL y.ds ≤ 1152921504606846976
  great : y.big = true → 1152921504606846976 < valL y.ds
  x : 0 ≤ y.x ∧ y.x ≤ 1152921504606846976
def restB (s : List UInt8) : List UInt8 := if negB s then s.drop 1 else s
structure End8 (r : List UInt8) (y : X8) : Prop where
  inv : Inv8 r y
  i : y.i = r.length
def a8 (s : List UInt8) : Anns := ⟨fun k => match k with
  | 6 => some { α := X8, slots := [2, 4, 5, 6, 7, 8], nb := 0, vals := fun y => [.int .i64 y.x, .str (restB s), .bool (negB s), .int .i64 (ptv y.i y.k), .bool y.big, .int .i64 y.i], sS := fun _ => ⟨[], []⟩, I := Inv8 (restB s), μ := fun y => (restB s).length - y.i, bools := [7] }
  | 1000004 => some { α := Unit, slots := [2, 4, 5], nb := 0, vals := fun _ => [.int .i64 0, .str (restB s), .bool (negB s)], sS := fun _ => ⟨[], []⟩, I := fun _ => True, μ := fun _ => 0 }
  | 1000018 => some { α := X8, slots := [2, 4, 5, 6, 7], nb := 0, vals := fun y => [.int .i64 y.x, .str (restB s), .bool (negB s), .int .i64 (ptv y.i y.k), .bool y.big], sS := fun _ => ⟨[], []⟩, I := End8 (restB s), μ := fun _ => 0, bools := [7, 5] }
  | _ => none, nA⟩
end Go.Abs

namespace Go.Abs
open Go.Proofs L8
theorem w8 (m : Int) (s : List UInt8) : (pureW PP (G8 m) XL (tbl []) (itbl []) (a8 s) [] 8 [.str s] (.tup [.int .i64 (decP s).1, .int .i64 (decP s).2], [])) =
(((((!s == []) = true →
        (0 : Int) ≤ (0 : Int) ∧
 ∃ (c : UInt8),
 s[nat_lit 0]? = some c ∧
 (((↑c.toNat : Int) == (45 : Int)) = true →
 (0 : Int) ≤ (1 : Int) ∧
 (nat_lit 1 ≤ s.length ∧ s.length ≤ s.length) ∧
 ∃ (_y : Unit),
 ValsAre [AV.int IntKind.i64 (0 : Int), AV.str (List.drop (nat_lit 1) (List.take s.length s)), AV.bool true]
 [AV.int IntKind.i64 (0 : Int), AV.str (restB s), AV.bool (negB s)] ∧
 StIs { boxes := [], live := [] } { boxes := [], live := [] } ∧ True ∧ True) ∧
 (((↑c.toNat : Int) == (45 : Int)) = false →
 ∃ (_y : Unit),
 ValsAre [AV.int IntKind.i64 (0 : Int), AV.str s, AV.bool false] [AV.int IntKind.i64 (0 : Int), AV.str (restB s), AV.bool (negB s)] ∧
 StIs { boxes := [], live := [] } { boxes := [], live := [] } ∧ True ∧ True)) ∧
      ((!s == []) = false →
        ∃ (_y : Unit),
 ValsAre [AV.int IntKind.i64 (0 : Int), AV.str s, AV.bool false] [AV.int IntKind.i64 (0 : Int), AV.str (restB s), AV.bool (negB s)] ∧
 StIs { boxes := [], live := [] } { boxes := [], live := [] } ∧ True ∧ True)) ∧
    ∀ (_x : Unit),
      True →
        True →
 ((∃ (y : X8),
 ValsAre
 [AV.int IntKind.i64 (0 : Int), AV.str (restB s), AV.bool (negB s), AV.int IntKind.i64 (-1 : Int), AV.bool false,
 AV.int IntKind.i64 (0 : Int)]
 [AV.int IntKind.i64 y.x, AV.str (restB s), AV.bool (negB s), AV.int IntKind.i64 (ptv y.i y.k), AV.bool y.big,
 AV.int IntKind.i64 (↑y.i : Int)] ∧
 StIs { boxes := [], live := [] } { boxes := [], live := [] } ∧ Inv8 (restB s) y ∧ True) ∧
 ∀ (x : X8),
 Inv8 (restB s) x →
 (x.big = true →
 (decide ((↑x.i : Int) < (↑(restB s).length : Int)) = true →
 (0 : Int) ≤ (↑x.i : Int) ∧
 ∃ (c : UInt8),
 (restB s)[(↑x.i : Int).toNat]? = some c ∧
 (((↑c.toNat : Int) == (46 : Int)) = true →
 (decide (ptv x.i x.k < (0 : Int)) = true →
 (decide ((↑x.i : Int) > (0 : Int)) = true →
 ∃ (y : X8),
 ValsAre
 [AV.int IntKind.i64 x.x, AV.str (restB s), AV.bool (negB s), AV.int IntKind.i64 (↑x.i : Int), AV.bool true,
 AV.int IntKind.i64 (IntKind.i64.wrap ((↑x.i : Int) + (1 : Int)))]
 [AV.int IntKind.i64 y.x, AV.str (restB s), AV.bool (negB s), AV.int IntKind.i64 (ptv y.i y.k), AV.bool y.big,
 AV.int IntKind.i64 (↑y.i : Int)] ∧
 StIs { boxes := [], live := [] } { boxes := [], live := [] } ∧
 Inv8 (restB s) y ∧ (restB s).length - y.i < (restB s).length - x.i) ∧
 (decide ((↑x.i : Int) > (0 : Int)) = false →
 (decide ((↑c.toNat : Int) < (48 : Int)) = true →
 RetIs (AV.tup [AV.int IntKind.i64 (0 : Int), AV.int IntKind.i64 (3 : Int)]) []
 (AV.tup [AV.int IntKind.i64 (decP s).fst, AV.int IntKind.i64 (decP s).snd], [])) ∧
 (decide ((↑c.toNat : Int) < (48 : Int)) = false →
 (decide ((↑c.toNat : Int) > (57 : Int)) = true →
 RetIs (AV.tup [AV.int IntKind.i64 (0 : Int), AV.int IntKind.i64 (3 : Int)]) []
 (AV.tup [AV.int IntKind.i64 (decP s).fst, AV.int IntKind.i64 (decP s).snd], [])) ∧
 (decide ((↑c.toNat : Int) > (57 : Int)) = false →
 ∃ (y : X8),
 ValsAre
 [AV.int IntKind.i64 x.x, AV.str (restB s), AV.bool (negB s), AV.int IntKind.i64 (ptv x.i x.k),
 AV.bool true, AV.int IntKind.i64 (IntKind.i64.wrap ((↑x.i : Int) + (1 : Int)))]
 [AV.int IntKind.i64 y.x, AV.str (restB s), AV.bool (negB s), AV.int IntKind.i64 (ptv y.i y.k),
 AV.bool y.big, AV.int IntKind.i64 (↑y.i : Int)] ∧
 StIs { boxes := [], live := [] } { boxes := [], live := [] } ∧
 Inv8 (restB s) y ∧ (restB s).length - y.i < (restB s).length - x.i)))) ∧
 (decide (ptv x.i x.k < (0 : Int)) = false →
 (decide ((↑c.toNat : Int) < (48 : Int)) = true →
 RetIs (AV.tup [AV.int IntKind.i64 (0 : Int), AV.int IntKind.i64 (3 : Int)]) []
 (AV.tup [AV.int IntKind.i64 (decP s).fst, AV.int IntKind.i64 (decP s).snd], [])) ∧
 (decide ((↑c.toNat : Int) < (48 : Int)) = false →
 (decide ((↑c.toNat : Int) > (57 : Int)) = true →
 RetIs (AV.tup [AV.int IntKind.i64 (0 : Int), AV.int IntKind.i64 (3 : Int)]) []
 (AV.tup [AV.int IntKind.i64 (decP s).fst, AV.int IntKind.i64 (decP s).snd], [])) ∧
 (decide ((↑c.toNat : Int) > (57 : Int)) = false →
 ∃ (y : X8),
 ValsAre
 [AV.int IntKind.i64 x.x, AV.str (restB s), AV.bool (negB s), AV.int IntKind.i64 (ptv x.i x.k),
 AV.bool true, AV.int IntKind.i64 (IntKind.i64.wrap ((↑x.i : Int) + (1 : Int)))]
 [AV.int IntKind.i64 y.x, AV.str (restB s), AV.bool (negB s), AV.int IntKind.i64 (ptv y.i y.k),
 AV.bool y.big, AV.int IntKind.i64 (↑y.i : Int)] ∧
 StIs { boxes := [], live := [] } { boxes := [], live := [] } ∧
 Inv8 (restB s) y ∧ (restB s).length - y.i < (restB s).length - x.i)))) ∧
 (((↑c.toNat : Int) == (46 : Int)) = false →
 (decide ((↑c.toNat : Int) < (48 : Int)) = true →
 RetIs (AV.tup [AV.int IntKind.i64 (0 : Int), AV.int IntKind.i64 (3 : Int)]) []
 (AV.tup [AV.int IntKind.i64 (decP s).fst, AV.int IntKind.i64 (decP s).snd], [])) ∧
 (decide ((↑c.toNat : Int) < (48 : Int)) = false →
 (decide ((↑c.toNat : Int) > (57 : Int)) = true →
 RetIs (AV.tup [AV.int IntKind.i64 (0 : Int), AV.int IntKind.i64 (3 : Int)]) []
 (AV.tup [AV.int IntKind.i64 (decP s).fst, AV.int IntKind.i64 (decP s).snd], [])) ∧
 (decide ((↑c.toNat : Int) > (57 : Int)) = false →
 ∃ (y : X8),
 ValsAre
 [AV.int IntKind.i64 x.x, AV.str (restB s), AV.bool (negB s), AV.int IntKind.i64 (ptv x.i x.k), AV.bool true,
 AV.int IntKind.i64 (IntKind.i64.wrap ((↑x.i : Int) + (1 : Int)))]
 [AV.int IntKind.i64 y.x, AV.str (restB s), AV.bool (negB s), AV.int IntKind.i64 (ptv y.i y.k), AV.bool y.big,
 AV.int IntKind.i64 (↑y.i : Int)] ∧
 StIs { boxes := [], live := [] } { boxes := [], live := [] } ∧
 Inv8 (restB s) y ∧ (restB s).length - y.i < (restB s).length - x.i)))) ∧
 (decide ((↑x.i : Int) < (↑(restB s).length : Int)) = false →
 ∃ (y : X8),
 ValsAre [AV.int IntKind.i64 x.x, AV.str (restB s), AV.bool (negB s), AV.int IntKind.i64 (ptv x.i x.k), AV.bool true]
 [AV.int IntKind.i64 y.x, AV.str (restB s), AV.bool (negB s), AV.int IntKind.i64 (ptv y.i y.k), AV.bool y.big] ∧
 StIs { boxes := [], live := [] } { boxes := [], live := [] } ∧ End8 (restB s) y ∧ True)) ∧
 (x.big = false →
 (decide ((↑x.i : Int) < (↑(restB s).length : Int)) = true →
 (0 : Int) ≤ (↑x.i : Int) ∧
 ∃ (c : UInt8),
 (restB s)[(↑x.i : Int).toNat]? = some c ∧
 (((↑c.toNat : Int) == (46 : Int)) = true →
 (decide (ptv x.i x.k < (0 : Int)) = true →
 (decide ((↑x.i : Int) > (0 : Int)) = true →
 ∃ (y : X8),
 ValsAre
 [AV.int IntKind.i64 x.x, AV.str (restB s), AV.bool (negB s), AV.int IntKind.i64 (↑x.i : Int), AV.bool false,
 AV.int IntKind.i64 (IntKind.i64.wrap ((↑x.i : Int) + (1 : Int)))]
 [AV.int IntKind.i64 y.x, AV.str (restB s), AV.bool (negB s), AV.int IntKind.i64 (ptv y.i y.k), AV.bool y.big,
 AV.int IntKind.i64 (↑y.i : Int)] ∧
 StIs { boxes := [], live := [] } { boxes := [], live := [] } ∧
 Inv8 (restB s) y ∧ (restB s).length - y.i < (restB s).length - x.i) ∧
 (decide ((↑x.i : Int) > (0 : Int)) = false →
 (decide ((↑c.toNat : Int) < (48 : Int)) = true →
 RetIs (AV.tup [AV.int IntKind.i64 (0 : Int), AV.int IntKind.i64 (3 : Int)]) []
 (AV.tup [AV.int IntKind.i64 (decP s).fst, AV.int IntKind.i64 (decP s).snd], [])) ∧
 (decide ((↑c.toNat : Int) < (48 : Int)) = false →
 (decide ((↑c.toNat : Int) > (57 : Int)) = true →
 RetIs (AV.tup [AV.int IntKind.i64 (0 : Int), AV.int IntKind.i64 (3 : Int)]) []
 (AV.tup [AV.int IntKind.i64 (decP s).fst, AV.int IntKind.i64 (decP s).snd], [])) ∧
 (decide ((↑c.toNat : Int) > (57 : Int)) = false →
 (10 : Int) ≠ (0 : Int) ∧
 (decide
 (x.x >
 IntKind.i64.wrap
 ((IntKind.i64.wrap
 ((1152921504606846976 : Int) -
 IntKind.i64.wrap (IntKind.u8.wrap ((↑c.toNat : Int) - (48 : Int))))).tdiv
 (10 : Int))) =
 true →
 ∃ (y : X8),
 ValsAre
 [AV.int IntKind.i64 x.x, AV.str (restB s), AV.bool (negB s), AV.int IntKind.i64 (ptv x.i x.k),
 AV.bool true, AV.int IntKind.i64 (IntKind.i64.wrap ((↑x.i : Int) + (1 : Int)))]
 [AV.int IntKind.i64 y.x, AV.str (restB s), AV.bool (negB s), AV.int IntKind.i64 (ptv y.i y.k),
 AV.bool y.big, AV.int IntKind.i64 (↑y.i : Int)] ∧
 StIs { boxes := [], live := [] } { boxes := [], live := [] } ∧
 Inv8 (restB s) y ∧ (restB s).length - y.i < (restB s).length - x.i) ∧
 (decide
 (x.x >
 IntKind.i64.wrap
 ((IntKind.i64.wrap
 ((1152921504606846976 : Int) -
 IntKind.i64.wrap (IntKind.u8.wrap ((↑c.toNat : Int) - (48 : Int))))).tdiv
 (10 : Int))) =
 false →
 ∃ (y : X8),
 ValsAre
 [AV.int IntKind.i64
 (IntKind.i64.wrap
 (IntKind.i64.wrap ((10 : Int) * x.x) +
 IntKind.i64.wrap (IntKind.u8.wrap ((↑c.toNat : Int) - (48 : Int))))),
 AV.str (restB s), AV.bool (negB s), AV.int IntKind.i64 (ptv x.i x.k), AV.bool false,
 AV.int IntKind.i64 (IntKind.i64.wrap ((↑x.i : Int) + (1 : Int)))]
 [AV.int IntKind.i64 y.x, AV.str (restB s), AV.bool (negB s), AV.int IntKind.i64 (ptv y.i y.k),
 AV.bool y.big, AV.int IntKind.i64 (↑y.i : Int)] ∧
 StIs { boxes := [], live := [] } { boxes := [], live := [] } ∧
 Inv8 (restB s) y ∧ (restB s).length - y.i < (restB s).length - x.i))))) ∧
 (decide (ptv x.i x.k < (0 : Int)) = false →
 (decide ((↑c.toNat : Int) < (48 : Int)) = true →
 RetIs (AV.tup [AV.int IntKind.i64 (0 : Int), AV.int IntKind.i64 (3 : Int)]) []
 (AV.tup [AV.int IntKind.i64 (decP s).fst, AV.int IntKind.i64 (decP s).snd], [])) ∧
 (decide ((↑c.toNat : Int) < (48 : Int)) = false →
 (decide ((↑c.toNat : Int) > (57 : Int)) = true →
 RetIs (AV.tup [AV.int IntKind.i64 (0 : Int), AV.int IntKind.i64 (3 : Int)]) []
 (AV.tup [AV.int IntKind.i64 (decP s).fst, AV.int IntKind.i64 (decP s).snd], [])) ∧
 (decide ((↑c.toNat : Int) > (57 : Int)) = false →
 (10 : Int) ≠ (0 : Int) ∧
 (decide
 (x.x >
 IntKind.i64.wrap
 ((IntKind.i64.wrap
 ((1152921504606846976 : Int) -
 IntKind.i64.wrap (IntKind.u8.wrap ((↑c.toNat : Int) - (48 : Int))))).tdiv
 (10 : Int))) =
 true →
 ∃ (y : X8),
 ValsAre
 [AV.int IntKind.i64 x.x, AV.str (restB s), AV.bool (negB s), AV.int IntKind.i64 (ptv x.i x.k),
 AV.bool true, AV.int IntKind.i64 (IntKind.i64.wrap ((↑x.i : Int) + (1 : Int)))]
 [AV.int IntKind.i64 y.x, AV.str (restB s), AV.bool (negB s), AV.int IntKind.i64 (ptv y.i y.k),
 AV.bool y.big, AV.int IntKind.i64 (↑y.i : Int)] ∧
 StIs { boxes := [], live := [] } { boxes := [], live := [] } ∧
 Inv8 (restB s) y ∧ (restB s).length - y.i < (restB s).length - x.i) ∧
 (decide
 (x.x >
 IntKind.i64.wrap
 ((IntKind.i64.wrap
 ((1152921504606846976 : Int) -
 IntKind.i64.wrap (IntKind.u8.wrap ((↑c.toNat : Int) - (48 : Int))))).tdiv
 (10 : Int))) =
 false →
 ∃ (y : X8),
 ValsAre
 [AV.int IntKind.i64
 (IntKind.i64.wrap
 (IntKind.i64.wrap ((10 : Int) * x.x) +
 IntKind.i64.wrap (IntKind.u8.wrap ((↑c.toNat : Int) - (48 : Int))))),
 AV.str (restB s), AV.bool (negB s), AV.int IntKind.i64 (ptv x.i x.k), AV.bool false,
 AV.int IntKind.i64 (IntKind.i64.wrap ((↑x.i : Int) + (1 : Int)))]
 [AV.int IntKind.i64 y.x, AV.str (restB s), AV.bool (negB s), AV.int IntKind.i64 (ptv y.i y.k),
 AV.bool y.big, AV.int IntKind.i64 (↑y.i : Int)] ∧
 StIs { boxes := [], live := [] } { boxes := [], live := [] } ∧
 Inv8 (restB s) y ∧ (restB s).length - y.i < (restB s).length - x.i))))) ∧
 (((↑c.toNat : Int) == (46 : Int)) = false →
 (decide ((↑c.toNat : Int) < (48 : Int)) = true →
 RetIs (AV.tup [AV.int IntKind.i64 (0 : Int), AV.int IntKind.i64 (3 : Int)]) []
 (AV.tup [AV.int IntKind.i64 (decP s).fst, AV.int IntKind.i64 (decP s).snd], [])) ∧
 (decide ((↑c.toNat : Int) < (48 : Int)) = false →
 (decide ((↑c.toNat : Int) > (57 : Int)) = true →
 RetIs (AV.tup [AV.int IntKind.i64 (0 : Int), AV.int IntKind.i64 (3 : Int)]) []
 (AV.tup [AV.int IntKind.i64 (decP s).fst, AV.int IntKind.i64 (decP s).snd], [])) ∧
 (decide ((↑c.toNat : Int) > (57 : Int)) = false →
 (10 : Int) ≠ (0 : Int) ∧
 (decide
 (x.x >
 IntKind.i64.wrap
 ((IntKind.i64.wrap
 ((1152921504606846976 : Int) -
 IntKind.i64.wrap (IntKind.u8.wrap ((↑c.toNat : Int) - (48 : Int))))).tdiv
 (10 : Int))) =
 true →
 ∃ (y : X8),
 ValsAre
 [AV.int IntKind.i64 x.x, AV.str (restB s), AV.bool (negB s), AV.int IntKind.i64 (ptv x.i x.k),
 AV.bool true, AV.int IntKind.i64 (IntKind.i64.wrap ((↑x.i : Int) + (1 : Int)))]
 [AV.int IntKind.i64 y.x, AV.str (restB s), AV.bool (negB s), AV.int IntKind.i64 (ptv y.i y.k),
 AV.bool y.big, AV.int IntKind.i64 (↑y.i : Int)] ∧
 StIs { boxes := [], live := [] } { boxes := [], live := [] } ∧
 Inv8 (restB s) y ∧ (restB s).length - y.i < (restB s).length - x.i) ∧
 (decide
 (x.x >
 IntKind.i64.wrap
 ((IntKind.i64.wrap
 ((1152921504606846976 : Int) -
 IntKind.i64.wrap (IntKind.u8.wrap ((↑c.toNat : Int) - (48 : Int))))).tdiv
 (10 : Int))) =
 false →
 ∃ (y : X8),
 ValsAre
 [AV.int IntKind.i64
 (IntKind.i64.wrap
 (IntKind.i64.wrap ((10 : Int) * x.x) +
 IntKind.i64.wrap (IntKind.u8.wrap ((↑c.toNat : Int) - (48 : Int))))),
 AV.str (restB s), AV.bool (negB s), AV.int IntKind.i64 (ptv x.i x.k), AV.bool false,
 AV.int IntKind.i64 (IntKind.i64.wrap ((↑x.i : Int) + (1 : Int)))]
 [AV.int IntKind.i64 y.x, AV.str (restB s), AV.bool (negB s), AV.int IntKind.i64 (ptv y.i y.k),
 AV.bool y.big, AV.int IntKind.i64 (↑y.i : Int)] ∧
 StIs { boxes := [], live := [] } { boxes := [], live := [] } ∧
 Inv8 (restB s) y ∧ (restB s).length - y.i < (restB s).length - x.i))))) ∧
 (decide ((↑x.i : Int) < (↑(restB s).length : Int)) = false →
 ∃ (y : X8),
 ValsAre [AV.int IntKind.i64 x.x, AV.str (restB s), AV.bool (negB s), AV.int IntKind.i64 (ptv x.i x.k), AV.bool false]
 [AV.int IntKind.i64 y.x, AV.str (restB s), AV.bool (negB s), AV.int IntKind.i64 (ptv y.i y.k), AV.bool y.big] ∧
 StIs { boxes := [], live := [] } { boxes := [], live := [] } ∧ End8 (restB s) y ∧ True))) ∧
 ∀ (x : X8),
 End8 (restB s) x →
 True →
 (x.big = true →
 (negB s = true →
 (decide (ptv x.i x.k ≥ (0 : Int)) = true →
 ((IntKind.i64.wrap (IntKind.i64.wrap ((↑(restB s).length : Int) - ptv x.i x.k) - (1 : Int)) == (0 : Int)) = true →
 RetIs (AV.tup [AV.int IntKind.i64 (0 : Int), AV.int IntKind.i64 (3 : Int)]) []
 (AV.tup [AV.int IntKind.i64 (decP s).fst, AV.int IntKind.i64 (decP s).snd], [])) ∧
 ((IntKind.i64.wrap (IntKind.i64.wrap ((↑(restB s).length : Int) - ptv x.i x.k) - (1 : Int)) == (0 : Int)) = false →
 (decide (IntKind.i64.wrap (IntKind.i64.wrap ((↑(restB s).length : Int) - ptv x.i x.k) - (1 : Int)) > (6 : Int)) = true →
 RetIs (AV.tup [AV.int IntKind.i64 (0 : Int), AV.int IntKind.i64 (3 : Int)]) []
 (AV.tup [AV.int IntKind.i64 (decP s).fst, AV.int IntKind.i64 (decP s).snd], [])) ∧
 (decide (IntKind.i64.wrap (IntKind.i64.wrap ((↑(restB s).length : Int) - ptv x.i x.k) - (1 : Int)) > (6 : Int)) = false →
 ((restB s == []) = true →
 RetIs (AV.tup [AV.int IntKind.i64 (0 : Int), AV.int IntKind.i64 (3 : Int)]) []
 (AV.tup [AV.int IntKind.i64 (decP s).fst, AV.int IntKind.i64 (decP s).snd], [])) ∧
 ((restB s == []) = false →
 ((0 : Int) ≤
 IntKind.i64.wrap
 ((6 : Int) - IntKind.i64.wrap (IntKind.i64.wrap ((↑(restB s).length : Int) - ptv x.i x.k) - (1 : Int))) ∧
 IntKind.i64.wrap
 ((6 : Int) - IntKind.i64.wrap (IntKind.i64.wrap ((↑(restB s).length : Int) - ptv x.i x.k) - (1 : Int))) <
 (7 : Int)) ∧
 ∃ (n : Int),
 takeAt PP (nat_lit 3)
 [AV.agg
 [AV.int IntKind.i64 (1 : Int), AV.int IntKind.i64 (10 : Int), AV.int IntKind.i64 (100 : Int),
 AV.int IntKind.i64 (1000 : Int), AV.int IntKind.i64 (10000 : Int), AV.int IntKind.i64 (100000 : Int),
 AV.int IntKind.i64 (1000000 : Int)]]
 (nat_lit 0)
 (nat_lit 0 +
 (IntKind.i64.wrap
 ((6 : Int) -
 IntKind.i64.wrap
 (IntKind.i64.wrap ((↑(restB s).length : Int) - ptv x.i x.k) - (1 : Int)))).toNat *
 nat_lit 1) =
 some (AV.int IntKind.i64 n) ∧
 RetIs (AV.tup [AV.int IntKind.i64 (0 : Int), AV.int IntKind.i64 (2 : Int)]) []
 (AV.tup [AV.int IntKind.i64 (decP s).fst, AV.int IntKind.i64 (decP s).snd], []))))) ∧
 (decide (ptv x.i x.k ≥ (0 : Int)) = false →
 ((restB s == []) = true →
 RetIs (AV.tup [AV.int IntKind.i64 (0 : Int), AV.int IntKind.i64 (3 : Int)]) []
 (AV.tup [AV.int IntKind.i64 (decP s).fst, AV.int IntKind.i64 (decP s).snd], [])) ∧
 ((restB s == []) = false →
 ((0 : Int) ≤ (6 : Int) ∧ (6 : Int) < (7 : Int)) ∧
 ∃ (n : Int),
 some (AV.int IntKind.i64 (1000000 : Int)) = some (AV.int IntKind.i64 n) ∧
 RetIs (AV.tup [AV.int IntKind.i64 (0 : Int), AV.int IntKind.i64 (2 : Int)]) []
 (AV.tup [AV.int IntKind.i64 (decP s).fst, AV.int IntKind.i64 (decP s).snd], [])))) ∧
 (negB s = false →
 (decide (ptv x.i x.k ≥ (0 : Int)) = true →
 ((IntKind.i64.wrap (IntKind.i64.wrap ((↑(restB s).length : Int) - ptv x.i x.k) - (1 : Int)) == (0 : Int)) = true →
 RetIs (AV.tup [AV.int IntKind.i64 (0 : Int), AV.int IntKind.i64 (3 : Int)]) []
 (AV.tup [AV.int IntKind.i64 (decP s).fst, AV.int IntKind.i64 (decP s).snd], [])) ∧
 ((IntKind.i64.wrap (IntKind.i64.wrap ((↑(restB s).length : Int) - ptv x.i x.k) - (1 : Int)) == (0 : Int)) = false →
 (decide (IntKind.i64.wrap (IntKind.i64.wrap ((↑(restB s).length : Int) - ptv x.i x.k) - (1 : Int)) > (6 : Int)) = true →
 RetIs (AV.tup [AV.int IntKind.i64 (0 : Int), AV.int IntKind.i64 (3 : Int)]) []
 (AV.tup [AV.int IntKind.i64 (decP s).fst, AV.int IntKind.i64 (decP s).snd], [])) ∧
 (decide (IntKind.i64.wrap (IntKind.i64.wrap ((↑(restB s).length : Int) - ptv x.i x.k) - (1 : Int)) > (6 : Int)) = false →
 ((restB s == []) = true →
 RetIs (AV.tup [AV.int IntKind.i64 (0 : Int), AV.int IntKind.i64 (3 : Int)]) []
 (AV.tup [AV.int IntKind.i64 (decP s).fst, AV.int IntKind.i64 (decP s).snd], [])) ∧
 ((restB s == []) = false →
 ((0 : Int) ≤
 IntKind.i64.wrap
 ((6 : Int) - IntKind.i64.wrap (IntKind.i64.wrap ((↑(restB s).length : Int) - ptv x.i x.k) - (1 : Int))) ∧
 IntKind.i64.wrap
 ((6 : Int) - IntKind.i64.wrap (IntKind.i64.wrap ((↑(restB s).length : Int) - ptv x.i x.k) - (1 : Int))) <
 (7 : Int)) ∧
 ∃ (n : Int),
 takeAt PP (nat_lit 3)
 [AV.agg
 [AV.int IntKind.i64 (1 : Int), AV.int IntKind.i64 (10 : Int), AV.int IntKind.i64 (100 : Int),
 AV.int IntKind.i64 (1000 : Int), AV.int IntKind.i64 (10000 : Int), AV.int IntKind.i64 (100000 : Int),
 AV.int IntKind.i64 (1000000 : Int)]]
 (nat_lit 0)
 (nat_lit 0 +
 (IntKind.i64.wrap
 ((6 : Int) -
 IntKind.i64.wrap
 (IntKind.i64.wrap ((↑(restB s).length : Int) - ptv x.i x.k) - (1 : Int)))).toNat *
 nat_lit 1) =
 some (AV.int IntKind.i64 n) ∧
 RetIs (AV.tup [AV.int IntKind.i64 (0 : Int), AV.int IntKind.i64 (2 : Int)]) []
 (AV.tup [AV.int IntKind.i64 (decP s).fst, AV.int IntKind.i64 (decP s).snd], []))))) ∧
 (decide (ptv x.i x.k ≥ (0 : Int)) = false →
 ((restB s == []) = true →
 RetIs (AV.tup [AV.int IntKind.i64 (0 : Int), AV.int IntKind.i64 (3 : Int)]) []
 (AV.tup [AV.int IntKind.i64 (decP s).fst, AV.int IntKind.i64 (decP s).snd], [])) ∧
 ((restB s == []) = false →
 ((0 : Int) ≤ (6 : Int) ∧ (6 : Int) < (7 : Int)) ∧
 ∃ (n : Int),
 some (AV.int IntKind.i64 (1000000 : Int)) = some (AV.int IntKind.i64 n) ∧
 RetIs (AV.tup [AV.int IntKind.i64 (0 : Int), AV.int IntKind.i64 (2 : Int)]) []
 (AV.tup [AV.int IntKind.i64 (decP s).fst, AV.int IntKind.i64 (decP s).snd], []))))) ∧
 (x.big = false →
 (negB s = true →
 (decide (ptv x.i x.k ≥ (0 : Int)) = true →
 ((IntKind.i64.wrap (IntKind.i64.wrap ((↑(restB s).length : Int) - ptv x.i x.k) - (1 : Int)) == (0 : Int)) = true →
 RetIs (AV.tup [AV.int IntKind.i64 (0 : Int), AV.int IntKind.i64 (3 : Int)]) []
 (AV.tup [AV.int IntKind.i64 (decP s).fst, AV.int IntKind.i64 (decP s).snd], [])) ∧
 ((IntKind.i64.wrap (IntKind.i64.wrap ((↑(restB s).length : Int) - ptv x.i x.k) - (1 : Int)) == (0 : Int)) = false →
 (decide (IntKind.i64.wrap (IntKind.i64.wrap ((↑(restB s).length : Int) - ptv x.i x.k) - (1 : Int)) > (6 : Int)) = true →
 RetIs (AV.tup [AV.int IntKind.i64 (0 : Int), AV.int IntKind.i64 (3 : Int)]) []
 (AV.tup [AV.int IntKind.i64 (decP s).fst, AV.int IntKind.i64 (decP s).snd], [])) ∧
 (decide (IntKind.i64.wrap (IntKind.i64.wrap ((↑(restB s).length : Int) - ptv x.i x.k) - (1 : Int)) > (6 : Int)) = false →
 ((restB s == []) = true →
 RetIs (AV.tup [AV.int IntKind.i64 (0 : Int), AV.int IntKind.i64 (3 : Int)]) []
 (AV.tup [AV.int IntKind.i64 (decP s).fst, AV.int IntKind.i64 (decP s).snd], [])) ∧
 ((restB s == []) = false →
 ((0 : Int) ≤
 IntKind.i64.wrap
 ((6 : Int) - IntKind.i64.wrap (IntKind.i64.wrap ((↑(restB s).length : Int) - ptv x.i x.k) - (1 : Int))) ∧
 IntKind.i64.wrap
 ((6 : Int) - IntKind.i64.wrap (IntKind.i64.wrap ((↑(restB s).length : Int) - ptv x.i x.k) - (1 : Int))) <
 (7 : Int)) ∧
 ∃ (n : Int),
 takeAt PP (nat_lit 3)
 [AV.agg
 [AV.int IntKind.i64 (1 : Int), AV.int IntKind.i64 (10 : Int), AV.int IntKind.i64 (100 : Int),
 AV.int IntKind.i64 (1000 : Int), AV.int IntKind.i64 (10000 : Int), AV.int IntKind.i64 (100000 : Int),
 AV.int IntKind.i64 (1000000 : Int)]]
 (nat_lit 0)
 (nat_lit 0 +
 (IntKind.i64.wrap
 ((6 : Int) -
 IntKind.i64.wrap
 (IntKind.i64.wrap ((↑(restB s).length : Int) - ptv x.i x.k) - (1 : Int)))).toNat *
 nat_lit 1) =
 some (AV.int IntKind.i64 n) ∧
 n ≠ (0 : Int) ∧
 (decide (x.x > IntKind.i64.wrap (Int.tdiv (1152921504606846976 : Int) n)) = true →
 RetIs (AV.tup [AV.int IntKind.i64 (0 : Int), AV.int IntKind.i64 (2 : Int)]) []
 (AV.tup [AV.int IntKind.i64 (decP s).fst, AV.int IntKind.i64 (decP s).snd], [])) ∧
 (decide (x.x > IntKind.i64.wrap (Int.tdiv (1152921504606846976 : Int) n)) = false →
 RetIs
 (AV.tup
 [AV.int IntKind.i64 (IntKind.i64.wrap ((0 : Int) - IntKind.i64.wrap (x.x * n))),
 AV.int IntKind.i64 (0 : Int)])
 [] (AV.tup [AV.int IntKind.i64 (decP s).fst, AV.int IntKind.i64 (decP s).snd], [])))))) ∧
 (decide (ptv x.i x.k ≥ (0 : Int)) = false →
 ((restB s == []) = true →
 RetIs (AV.tup [AV.int IntKind.i64 (0 : Int), AV.int IntKind.i64 (3 : Int)]) []
 (AV.tup [AV.int IntKind.i64 (decP s).fst, AV.int IntKind.i64 (decP s).snd], [])) ∧
 ((restB s == []) = false →
 ((0 : Int) ≤ (6 : Int) ∧ (6 : Int) < (7 : Int)) ∧
 ∃ (n : Int),
 some (AV.int IntKind.i64 (1000000 : Int)) = some (AV.int IntKind.i64 n) ∧
 n ≠ (0 : Int) ∧
 (decide (x.x > IntKind.i64.wrap (Int.tdiv (1152921504606846976 : Int) n)) = true →
 RetIs (AV.tup [AV.int IntKind.i64 (0 : Int), AV.int IntKind.i64 (2 : Int)]) []
 (AV.tup [AV.int IntKind.i64 (decP s).fst, AV.int IntKind.i64 (decP s).snd], [])) ∧
 (decide (x.x > IntKind.i64.wrap (Int.tdiv (1152921504606846976 : Int) n)) = false →
 RetIs
 (AV.tup
 [AV.int IntKind.i64 (IntKind.i64.wrap ((0 : Int) - IntKind.i64.wrap (x.x * n))),
 AV.int IntKind.i64 (0 : Int)])
 [] (AV.tup [AV.int IntKind.i64 (decP s).fst, AV.int IntKind.i64 (decP s).snd], []))))) ∧
 (negB s = false →
 (decide (ptv x.i x.k ≥ (0 : Int)) = true →
 ((IntKind.i64.wrap (IntKind.i64.wrap ((↑(restB s).length : Int) - ptv x.i x.k) - (1 : Int)) == (0 : Int)) = true →
 RetIs (AV.tup [AV.int IntKind.i64 (0 : Int), AV.int IntKind.i64 (3 : Int)]) []
 (AV.tup [AV.int IntKind.i64 (decP s).fst, AV.int IntKind.i64 (decP s).snd], [])) ∧
 ((IntKind.i64.wrap (IntKind.i64.wrap ((↑(restB s).length : Int) - ptv x.i x.k) - (1 : Int)) == (0 : Int)) = false →
 (decide (IntKind.i64.wrap (IntKind.i64.wrap ((↑(restB s).length : Int) - ptv x.i x.k) - (1 : Int)) > (6 : Int)) = true →
 RetIs (AV.tup [AV.int IntKind.i64 (0 : Int), AV.int IntKind.i64 (3 : Int)]) []
 (AV.tup [AV.int IntKind.i64 (decP s).fst, AV.int IntKind.i64 (decP s).snd], [])) ∧
 (decide (IntKind.i64.wrap (IntKind.i64.wrap ((↑(restB s).length : Int) - ptv x.i x.k) - (1 : Int)) > (6 : Int)) = false →
 ((restB s == []) = true →
 RetIs (AV.tup [AV.int IntKind.i64 (0 : Int), AV.int IntKind.i64 (3 : Int)]) []
 (AV.tup [AV.int IntKind.i64 (decP s).fst, AV.int IntKind.i64 (decP s).snd], [])) ∧
 ((restB s == []) = false →
 ((0 : Int) ≤
 IntKind.i64.wrap
 ((6 : Int) - IntKind.i64.wrap (IntKind.i64.wrap ((↑(restB s).length : Int) - ptv x.i x.k) - (1 : Int))) ∧
 IntKind.i64.wrap
 ((6 : Int) - IntKind.i64.wrap (IntKind.i64.wrap ((↑(restB s).length : Int) - ptv x.i x.k) - (1 : Int))) <
 (7 : Int)) ∧
 ∃ (n : Int),
 takeAt PP (nat_lit 3)
 [AV.agg
 [AV.int IntKind.i64 (1 : Int), AV.int IntKind.i64 (10 : Int), AV.int IntKind.i64 (100 : Int),
 AV.int IntKind.i64 (1000 : Int), AV.int IntKind.i64 (10000 : Int), AV.int IntKind.i64 (100000 : Int),
 AV.int IntKind.i64 (1000000 : Int)]]
 (nat_lit 0)
 (nat_lit 0 +
 (IntKind.i64.wrap
 ((6 : Int) -
 IntKind.i64.wrap
 (IntKind.i64.wrap ((↑(restB s).length : Int) - ptv x.i x.k) - (1 : Int)))).toNat *
 nat_lit 1) =
 some (AV.int IntKind.i64 n) ∧
 n ≠ (0 : Int) ∧
 (decide (x.x > IntKind.i64.wrap (Int.tdiv (1152921504606846976 : Int) n)) = true →
 RetIs (AV.tup [AV.int IntKind.i64 (0 : Int), AV.int IntKind.i64 (2 : Int)]) []
 (AV.tup [AV.int IntKind.i64 (decP s).fst, AV.int IntKind.i64 (decP s).snd], [])) ∧
 (decide (x.x > IntKind.i64.wrap (Int.tdiv (1152921504606846976 : Int) n)) = false →
 RetIs (AV.tup [AV.int IntKind.i64 (IntKind.i64.wrap (x.x * n)), AV.int IntKind.i64 (0 : Int)]) []
 (AV.tup [AV.int IntKind.i64 (decP s).fst, AV.int IntKind.i64 (decP s).snd], [])))))) ∧
 (decide (ptv x.i x.k ≥ (0 : Int)) = false →
 ((restB s == []) = true →
 RetIs (AV.tup [AV.int IntKind.i64 (0 : Int), AV.int IntKind.i64 (3 : Int)]) []
 (AV.tup [AV.int IntKind.i64 (decP s).fst, AV.int IntKind.i64 (decP s).snd], [])) ∧
 ((restB s == []) = false →
 ((0 : Int) ≤ (6 : Int) ∧ (6 : Int) < (7 : Int)) ∧
 ∃ (n : Int),
 some (AV.int IntKind.i64 (1000000 : Int)) = some (AV.int IntKind.i64 n) ∧
 n ≠ (0 : Int) ∧
 (decide (x.x > IntKind.i64.wrap (Int.tdiv (1152921504606846976 : Int) n)) = true →
 RetIs (AV.tup [AV.int IntKind.i64 (0 : Int), AV.int IntKind.i64 (2 : Int)]) []
 (AV.tup [AV.int IntKind.i64 (decP s).fst, AV.int IntKind.i64 (decP s).snd], [])) ∧
 (decide (x.x > IntKind.i64.wrap (Int.tdiv (1152921504606846976 : Int) n)) = false →
 RetIs (AV.tup [AV.int IntKind.i64 (IntKind.i64.wrap (x.x * n)), AV.int IntKind.i64 (0 : Int)]) []
 (AV.tup [AV.int IntKind.i64 (decP s).fst, AV.int IntKind.i64 (decP s).snd], []))))))) ∧
  True ∧ True) := by kernel_rfl
end Go.Abs

namespace Go.Abs
open Go.Proofs L8
theorem w25 (m : Int) (code a : Int) (es : List AV) (p : Nat × TypeId) (n : Nat) : (openW PP (G8 m) XL (tbl []) (itbl []) nAn [] 25 [.int .i64 code, .ptr 0 0, .ptr 2 0] ⟨[some [.sl 2 es (.tok 1)], some keptClasses, some [.int .i64 a]], [p, (n, 43)]⟩ (.tup [], ⟨[some [.sl 2 (if es.length < 32 then es ++ [.agg [.int .i64 a, .int .i64 code]] else es) (.tok 1)], some keptClasses, some [.int .i64 a]], [p, (if es.length < 32 then n + 1 else n, 43)]⟩)) =
((decide ((↑es.length : Int) < (32 : Int)) = true →
    (nat_lit 2 = nat_lit 2 ∨ es = []) ∧
      (es.length + (1 : Nat)) * nat_lit 17 ≤ nat_lit 70368744177664 ∧
        n = es.length ∧
 RetOpen
 (AV.p2 (3 : Nat) (AV.tup []) &&
 boxesOk (3 : Nat)
 [some [AV.sl (nat_lit 2) (es ++ [AV.agg [AV.int IntKind.i64 a, AV.int IntKind.i64 code]]) (Own.tok (nat_lit 1))], some keptClasses,
 some [AV.int IntKind.i64 a]])
 (AV.tup [])
 { boxes := [some [AV.sl (nat_lit 2) (es ++ [AV.agg [AV.int IntKind.i64 a, AV.int IntKind.i64 code]]) (Own.tok (nat_lit 1))], some keptClasses, some [AV.int IntKind.i64 a]], live := [p, (es.length + nat_lit 1, nat_lit 43)] }
 (AV.tup [],
 { boxes := [some [AV.sl (nat_lit 2) (if es.length < nat_lit 32 then es ++ [AV.agg [AV.int IntKind.i64 a, AV.int IntKind.i64 code]] else es) (Own.tok (nat_lit 1))], some keptClasses, some [AV.int IntKind.i64 a]], live := [p, (if es.length < nat_lit 32 then n + nat_lit 1 else n, nat_lit 43)] })) ∧
  (decide ((↑es.length : Int) < (32 : Int)) = false →
    RetOpen
      (AV.p2 (3 : Nat) (AV.tup []) && boxesOk (3 : Nat) [some [AV.sl (nat_lit 2) es (Own.tok (nat_lit 1))], some keptClasses, some [AV.int IntKind.i64 a]])
      (AV.tup []) { boxes := [some [AV.sl (nat_lit 2) es (Own.tok (nat_lit 1))], some keptClasses, some [AV.int IntKind.i64 a]], live := [p, (n, nat_lit 43)] }
      (AV.tup [],
        { boxes := [some [AV.sl (nat_lit 2) (if es.length < nat_lit 32 then es ++ [AV.agg [AV.int IntKind.i64 a, AV.int IntKind.i64 code]] else es) (Own.tok (nat_lit 1))], some keptClasses, some [AV.int IntKind.i64 a]], live := [p, (if es.length < nat_lit 32 then n + nat_lit 1 else n, nat_lit 43)] }))) := by kernel_rfl
theorem w42 (m c : Int) (bs : List UInt8) : (pureW PP (G8 m) XL (tbl lib8) (itbl []) nAn [] 42 [.sl 1 (bytesL bs) .no, .int .u8 c] (.int .i64 (Lib.indexByte bs c.toNat.toUInt8), [])) =
(∃ (n : Int),
  CallIs
      (tbl [(nat_lit 61, sIndexByte), (nat_lit 62, sIndexByteString), (nat_lit 29, sContains)] (nat_lit 61)
        [AV.sl (nat_lit 1) (bytesL bs) Own.no, AV.int IntKind.u8 c])
      (AV.int IntKind.i64 n) [] ∧
    RetIs (AV.int IntKind.i64 n) [] (AV.int IntKind.i64 (Lib.indexByte bs c.toNat.toUInt8), [])) := by kernel_rfl
theorem w42f (m c : Int) (bs : List UInt8) : (pureW PP (G8 m) XL (tbl lib8) (itbl []) nAn [] 42 [.sl 1 (bytesL bs) .full, .int .u8 c] (.int .i64 (Lib.indexByte bs c.toNat.toUInt8), [])) =
(∃ (n : Int),
  CallIs
      (tbl [(nat_lit 61, sIndexByte), (nat_lit 62, sIndexByteString), (nat_lit 29, sContains)] (nat_lit 61)
        [AV.sl (nat_lit 1) (bytesL bs) Own.full, AV.int IntKind.u8 c])
      (AV.int IntKind.i64 n) [] ∧
    RetIs (AV.int IntKind.i64 n) [] (AV.int IntKind.i64 (Lib.indexByte bs c.toNat.toUInt8), [])) := by kernel_rfl
theorem w69 (m c : Int) (l : List UInt8) : (pureW PP (G8 m) XL (tbl lib8) (itbl []) nAn [] 69 [.str l, .int .u8 c] (.int .i64 (Lib.indexByte l c.toNat.toUInt8), [])) =
(∃ (n : Int),
  CallIs (some (AV.int IntKind.i64 (Lib.indexByte l c.toNat.toUInt8), [])) (AV.int IntKind.i64 n) [] ∧
    RetIs (AV.int IntKind.i64 n) [] (AV.int IntKind.i64 (Lib.indexByte l c.toNat.toUInt8), [])) := by kernel_rfl
theorem w46 (m c : Int) (l : List UInt8) : (pureW PP (G8 m) XL (tbl [(69, sIndexByteString)]) (itbl []) nAn [] 46 [.str l, .int .u8 c] (.int .i64 (Lib.indexByte l c.toNat.toUInt8), [])) =
(∃ (n : Int),
  CallIs (some (AV.int IntKind.i64 (Lib.indexByte l c.toNat.toUInt8), [])) (AV.int IntKind.i64 n) [] ∧
    RetIs (AV.int IntKind.i64 n) [] (AV.int IntKind.i64 (Lib.indexByte l c.toNat.toUInt8), [])) := by kernel_rfl
theorem w45 (m : Int) (bs : List UInt8) (sz : Nat) (o : Own) : (pureW PP (G8 m) XL (tbl []) (itbl []) (a45 bs) [] 45 [.sl sz (bytesL bs) o] (.int .i64 (txtErr bs), [])) =
((decide ((↑(bytesL bs).length : Int) > (64 : Int)) = true → RetIs (AV.int IntKind.i64 (2 : Int)) [] (AV.int IntKind.i64 (txtErr bs), [])) ∧
  (decide ((↑(bytesL bs).length : Int) > (64 : Int)) = false →
    (∃ (y : Nat),
        ValsAre [AV.sl sz (bytesL bs) o, AV.int IntKind.i64 (↑(bytesL bs).length : Int), AV.int IntKind.i64 (0 : Int)]
 [AV.sl (nat_lit 1) (bytesL bs) Own.no, AV.int IntKind.i64 (↑bs.length : Int), AV.int IntKind.i64 (↑y : Int)] ∧
 StIs { boxes := [], live := [] } { boxes := [], live := [] } ∧ (y ≤ bs.length ∧ (List.take y bs).any badB = false) ∧ True) ∧
      ∀ (x : Nat),
        x ≤ bs.length ∧ (List.take x bs).any badB = false →
 (decide ((↑x : Int) < (↑bs.length : Int)) = true →
 ((0 : Int) ≤ (↑x : Int) ∧ (↑x : Int) < (↑(bytesL bs).length : Int)) ∧
 ∃ (n : Int),
 takeAt PP (nat_lit 5) (bytesL bs) (↑x : Int).toNat (nat_lit 0) = some (AV.int IntKind.u8 n) ∧
 (decide (n < (32 : Int)) = true → RetIs (AV.int IntKind.i64 (3 : Int)) [] (AV.int IntKind.i64 (txtErr bs), [])) ∧
 (decide (n < (32 : Int)) = false →
 (decide (n > (126 : Int)) = true → RetIs (AV.int IntKind.i64 (3 : Int)) [] (AV.int IntKind.i64 (txtErr bs), [])) ∧
 (decide (n > (126 : Int)) = false →
 ((n == (92 : Int)) = true → RetIs (AV.int IntKind.i64 (3 : Int)) [] (AV.int IntKind.i64 (txtErr bs), [])) ∧
 ((n == (92 : Int)) = false →
 ∃ (y : Nat),
 ValsAre
 [AV.sl (nat_lit 1) (bytesL bs) Own.no, AV.int IntKind.i64 (↑bs.length : Int),
 AV.int IntKind.i64 (IntKind.i64.wrap ((↑x : Int) + (1 : Int)))]
 [AV.sl (nat_lit 1) (bytesL bs) Own.no, AV.int IntKind.i64 (↑bs.length : Int), AV.int IntKind.i64 (↑y : Int)] ∧
 StIs { boxes := [], live := [] } { boxes := [], live := [] } ∧
 (y ≤ bs.length ∧ (List.take y bs).any badB = false) ∧ bs.length - y < bs.length - x)))) ∧
 (decide ((↑x : Int) < (↑bs.length : Int)) = false → RetIs (AV.int IntKind.i64 (0 : Int)) [] (AV.int IntKind.i64 (txtErr bs), [])))) := by kernel_rfl
theorem w41 (m n : Int) (ps : List AV) (bs : List UInt8) (b0 b2 : List AV) (p q : Nat × TypeId) : (openW PP (G8 m) XL (tbl [(42, s42)]) (itbl []) (a41 n ps .full bs (S41 b0 b2 (bytesL bs) p q)) [] 41 [.int .i64 n, .sl 1 ps .full, .ptr 3 0, .ptr 4 0] (S41 b0 b2 (bytesL bs) p q) (.int .i64 (n + runL ps (bs.drop n.toNat)), S41 b0 b2 (bytesL bs) p q)) =
((∃ (y : Nat),
    ValsAre [AV.int IntKind.i64 n, AV.sl (nat_lit 1) ps Own.full, AV.ptr (nat_lit 3) (nat_lit 0), AV.ptr (nat_lit 4) (nat_lit 0)]
        [AV.int IntKind.i64 (n + (↑y : Int)), AV.sl (nat_lit 1) ps Own.full, AV.ptr (nat_lit 3) (nat_lit 0), AV.ptr (nat_lit 4) (nat_lit 0)] ∧
      StIs { boxes := [some b0, some keptClasses, some b2, some [AV.sl (nat_lit 1) (bytesL bs) Own.no], some [AV.ptr (nat_lit 1) (nat_lit 0)]], live := [p, q] }
 { boxes := [some b0, some keptClasses, some b2, some [AV.sl (nat_lit 1) (bytesL bs) Own.no], some [AV.ptr (nat_lit 1) (nat_lit 0)]], live := [p, q] } ∧
        y ≤ runL ps (List.drop n.toNat bs) ∧ True) ∧
  ∀ (x : Nat),
    x ≤ runL ps (List.drop n.toNat bs) →
      (decide (n + (↑x : Int) < (↑(bytesL bs).length : Int)) = true →
 ((0 : Int) ≤ n + (↑x : Int) ∧ n + (↑x : Int) < (↑(bytesL bs).length : Int)) ∧
 ∃ (n_1 : Int),
 takeAt PP (nat_lit 5) (bytesL bs) (n + (↑x : Int)).toNat (nat_lit 0) = some (AV.int IntKind.u8 n_1) ∧
 ((0 : Int) ≤ n_1 ∧ n_1 < (256 : Int)) ∧
 ∃ (n_2 : Int),
 takeA (some false) (some (nat_lit 1)) keptClasses (nat_lit 0 + n_1.toNat * nat_lit 1) = some (AV.int IntKind.u8 n_2) ∧
 ∃ (n_3 : Int),
 CallIs (tbl [(nat_lit 42, s42)] (nat_lit 42) [AV.sl (nat_lit 1) ps Own.full, AV.int IntKind.u8 n_2]) (AV.int IntKind.i64 n_3) [] ∧
 (decide (n_3 ≥ (0 : Int)) = true →
 ∃ (y : Nat),
 ValsAre
 [AV.int IntKind.i64 (IntKind.i64.wrap (n + (↑x : Int) + (1 : Int))), AV.sl (nat_lit 1) ps Own.full,
 AV.ptr (nat_lit 3) (nat_lit 0), AV.ptr (nat_lit 4) (nat_lit 0)]
 [AV.int IntKind.i64 (n + (↑y : Int)), AV.sl (nat_lit 1) ps Own.full, AV.ptr (nat_lit 3) (nat_lit 0),
 AV.ptr (nat_lit 4) (nat_lit 0)] ∧
 StIs
 { boxes := [some b0, some keptClasses, some b2, some [AV.sl (nat_lit 1) (bytesL bs) Own.no], some [AV.ptr (nat_lit 1) (nat_lit 0)]], live := [p, q] }
 { boxes := [some b0, some keptClasses, some b2, some [AV.sl (nat_lit 1) (bytesL bs) Own.no], some [AV.ptr (nat_lit 1) (nat_lit 0)]], live := [p, q] } ∧
 y ≤ runL ps (List.drop n.toNat bs) ∧
 ((↑bs.length : Int) - n - (↑y : Int)).toNat < ((↑bs.length : Int) - n - (↑x : Int)).toNat) ∧
 (decide (n_3 ≥ (0 : Int)) = false →
 RetOpen
 (AV.p2 (5 : Nat) (AV.int IntKind.i64 (n + (↑x : Int))) &&
 boxesOk (5 : Nat)
 [some b0, some keptClasses, some b2, some [AV.sl (nat_lit 1) (bytesL bs) Own.no], some [AV.ptr (nat_lit 1) (nat_lit 0)]])
 (AV.int IntKind.i64 (n + (↑x : Int)))
 { boxes := [some b0, some keptClasses, some b2, some [AV.sl (nat_lit 1) (bytesL bs) Own.no], some [AV.ptr (nat_lit 1) (nat_lit 0)]], live := [p, q] }
 (AV.int IntKind.i64 (n + (↑(runL ps (List.drop n.toNat bs)) : Int)),
 { boxes := [some b0, some keptClasses, some b2, some [AV.sl (nat_lit 1) (bytesL bs) Own.no], some [AV.ptr (nat_lit 1) (nat_lit 0)]], live := [p, q] }))) ∧
        (decide (n + (↑x : Int) < (↑(bytesL bs).length : Int)) = false →
 RetOpen
 (AV.p2 (5 : Nat) (AV.int IntKind.i64 (n + (↑x : Int))) &&
 boxesOk (5 : Nat) [some b0, some keptClasses, some b2, some [AV.sl (nat_lit 1) (bytesL bs) Own.no], some [AV.ptr (nat_lit 1) (nat_lit 0)]])
 (AV.int IntKind.i64 (n + (↑x : Int)))
 { boxes := [some b0, some keptClasses, some b2, some [AV.sl (nat_lit 1) (bytesL bs) Own.no], some [AV.ptr (nat_lit 1) (nat_lit 0)]], live := [p, q] }
 (AV.int IntKind.i64 (n + (↑(runL ps (List.drop n.toNat bs)) : Int)),
 { boxes := [some b0, some keptClasses, some b2, some [AV.sl (nat_lit 1) (bytesL bs) Own.no], some [AV.ptr (nat_lit 1) (nat_lit 0)]], live := [p, q] }))) := by kernel_rfl
end Go.Abs

namespace Go.Abs
open Go.Proofs L8

theorem retOpen_iff {ok : Bool} {r : AV} {S : St} {s : AV × St} : RetOpen ok r S s ↔ ok = true ∧ (r, S) = s := ⟨fun h => ⟨h.ok, h.eq⟩, fun h => ⟨h.1, h.2⟩⟩
theorem retLax_iff {r : AV} {s : AV × List (Nat × TypeId)} : RetLax r s ↔ Lax2 r s.1 ∧ s.1.closed2 = true ∧ s.2 = [] := ⟨fun h => ⟨h.lax, h.closed, h.none⟩, fun h => ⟨h.1, h.2.1, h.2.2⟩⟩

theorem p25 (m code a : Int) (es : List AV) (p : Nat × TypeId) (n : Nat) (hn : n = es.length) (hl : es.length ≤ 1000000) : OpenOk PP (G8 m) XL (tbl []) (itbl []) nAn [] 25 [.int .i64 code, .ptr 0 0, .ptr 2 0] ⟨[some [.sl 2 es (.tok 1)], some keptClasses, some [.int .i64 a]], [p, (n, 43)]⟩ (.tup [], ⟨[some [.sl 2 (if es.length < 32 then es ++ [.agg [.int .i64 a, .int .i64 code]] else es) (.tok 1)], some keptClasses, some [.int .i64 a]], [p, (if es.length < 32 then n + 1 else n, 43)]⟩) := by
  constructor
  rw [w25]
  subst hn
  refine ⟨fun h => ⟨.inl rfl, by simp; omega, rfl, ?_⟩, fun h => ?_⟩
  · have h' : es.length < 32 := by have := of_decide_eq_true h; omega
    exact ⟨by kernel_rfl, by simp [h']⟩
  · have h' : ¬ es.length < 32 := by have := of_decide_eq_false h; omega
    exact ⟨by kernel_rfl, by simp [h']⟩

theorem t50 {bs : List UInt8} {o : Own} {c : Int} (hb : bs ≠ []) : sIndexByte [.sl 1 (bytesL bs) o, .int .u8 c] = some (.int .i64 (Lib.indexByte bs c.toNat.toUInt8), []) := by
  have h := unBytes_mk bs
  have h1 : bytesL bs ≠ [] := by simpa [bytesL] using hb
  show (if 1 = 1 ∧ bytesL bs ≠ [] then (unBytes (bytesL bs)).map fun l => (AV.int .i64 (Lib.indexByte l c.toNat.toUInt8), ([] : List (Nat × TypeId))) else none) = _
  rw [if_pos ⟨rfl, h1⟩, h]
  rfl
theorem p42 (m c : Int) (bs : List UInt8) (hb : bs ≠ []) : PureOk PP (G8 m) XL (tbl lib8) (itbl []) nAn [] 42 [.sl 1 (bytesL bs) .no, .int .u8 c] (.int .i64 (Lib.indexByte bs c.toNat.toUInt8), []) := by
  constructor
  rw [w42]
  exact ⟨_, ⟨t50 (o := .no) hb⟩, ⟨rfl⟩⟩
theorem p42f (m c : Int) (bs : List UInt8) (hb : bs ≠ []) : PureOk PP (G8 m) XL (tbl lib8) (itbl []) nAn [] 42 [.sl 1 (bytesL bs) .full, .int .u8 c] (.int .i64 (Lib.indexByte bs c.toNat.toUInt8), []) := by
  constructor
  rw [w42f]
  exact ⟨_, ⟨t50 (o := .full) hb⟩, ⟨rfl⟩⟩
theorem p69 (m c : Int) (l : List UInt8) : PureOk PP (G8 m) XL (tbl lib8) (itbl []) nAn [] 69 [.str l, .int .u8 c] (.int .i64 (Lib.indexByte l c.toNat.toUInt8), []) := by
  constructor
  rw [w69]
  exact ⟨_, ⟨rfl⟩, ⟨rfl⟩⟩
theorem p46 (m c : Int) (l : List UInt8) : PureOk PP (G8 m) XL (tbl [(69, sIndexByteString)]) (itbl []) nAn [] 46 [.str l, .int .u8 c] (.int .i64 (Lib.indexByte l c.toNat.toUInt8), []) := by
  constructor
  rw [w46]
  exact ⟨_, ⟨rfl⟩, ⟨rfl⟩⟩

theorem any_take_succ {p : UInt8 → Bool} {bs : List UInt8} {x : Nat} (hx : x < bs.length) : (bs.take (x + 1)).any p = ((bs.take x).any p || p (bs.getD x 0)) := by
  rw [List.take_succ_eq_append_getElem hx, List.any_append]
  simp [hx]
theorem any_of_get {p : UInt8 → Bool} {bs : List UInt8} {x : Nat} (hx : x < bs.length) (h : p (bs.getD x 0) = true) : bs.any p = true := by
  rw [List.any_eq_true]
  exact ⟨bs[x], List.getElem_mem hx, by simpa [hx] using h⟩
theorem p45 (m : Int) (bs : List UInt8) (sz : Nat) (hsz : sz = 1) (hl : bs.length ≤ 1000000) : PureOk PP (G8 m) XL (tbl []) (itbl []) (a45 bs) [] 45 [.sl sz (bytesL bs) .no] (.int .i64 (txtErr bs), []) := by
  constructor
  rw [w45]
  subst hsz
  simp only [valsAre_iff, stIs_iff, retIs_iff, take_u8_iff agg5 size5, Prod.mk.injEq, AV.int.injEq, List.cons.injEq, and_true, true_and, exists_eq_left', and_assoc, exists_and_left, decide_eq_true_eq, decide_eq_false_iff_not, bytesL_length, Int.toNat_natCast, beq_iff_eq, beq_eq_false_iff_ne, ne_eq, gt_iff_lt]
  refine ⟨fun h => ?_, fun h => ⟨⟨0, rfl, by omega, by simp⟩, fun x ⟨hx, hb⟩ => ⟨fun hlt => ?_, fun hge => ?_⟩⟩⟩
  · simp only [txtErr]; rw [if_pos (by omega)]
  · have hlt' : x < bs.length := by omega
    have hnx := any_take_succ (p := badB) hlt'
    have hget : badB (bs.getD x 0) = true → bs.any badB = true := any_of_get hlt'
    generalize bs.getD x 0 = c at *
    have hbad : badB c = (decide (c.toNat < 32) || decide (126 < c.toNat) || c == 92) := rfl
    have h94 : c = 92 ↔ c.toNat = 92 := by rw [← UInt8.toNat_inj]; rfl
    have fin : badB c = true → (3 : Int) = txtErr bs := fun hb' => by
      simp only [txtErr]
      rw [if_neg (by omega), if_pos (hget hb')]
    refine ⟨by omega, by omega, hlt', fun h1 => fin (by rw [hbad]; simp; omega), fun h1 => ⟨fun h2 => fin (by rw [hbad]; simp; omega), fun h2 => ⟨fun h3 => fin (by rw [hbad]; simp only [Bool.or_eq_true, decide_eq_true_eq, beq_iff_eq, h94]; omega), fun h3 => ⟨x + 1, ?_, by omega, ?_, by omega⟩⟩⟩⟩
    · rw [wrap64_in (by omega) (by omega)]; omega
    · rw [hnx, hb, hbad]
      have : ¬ c = 92 := by rw [h94]; omega
      simp [this]
      omega
  · have hx' : x = bs.length := by omega
    subst hx'
    rw [List.take_length] at hb
    simp only [txtErr]
    rw [if_neg (by omega), if_neg (by simp [hb])]

theorem cls_get (c : UInt8) : takeA (some false) (some 1) keptClasses c.toNat = some (.int .u8 (cls c.toNat)) := by
  have h := c.toNat_lt
  have hlen : keptClasses.length = 256 := by kernel_rfl
  have h2 : keptClasses[c.toNat]? = some (.int .u8 (cls c.toNat)) := by
    simp only [keptClasses, List.getElem?_map, List.getElem?_range (show c.toNat < 256 by omega), Option.map_some]
  simp only [takeA, h2]
theorem cls_lt (c : Nat) : cls c < 9 := by
  unfold cls
  repeat' split
  all_goals omega
theorem ib_spec : ∀ (l : List UInt8) (c : UInt8), (c ∈ l → Lib.indexByte l c = ((l.takeWhile (· != c)).length : Int)) ∧ (c ∉ l → Lib.indexByte l c = -1)
  | [], c => ⟨fun h => by simp at h, fun _ => rfl⟩
  | b :: l, c => by
    obtain ⟨h1, h2⟩ := ib_spec l c
    simp only [Lib.indexByte, List.takeWhile_cons]
    by_cases hb : b = c
    · subst hb
      simp
    · have hb' : (b == c) = false := by simpa using hb
      have hb2 : (b != c) = true := by simpa using hb
      rw [hb', if_neg (by simp), hb2, if_pos rfl]
      refine ⟨fun h => ?_, fun h => ?_⟩
      · have hm : c ∈ l := by
          rcases List.mem_cons.1 h with h | h
          · exact absurd h.symm hb
          · exact h
        rw [h1 hm, if_neg (by simp)]
        simp
      · rw [h2 (fun hm => h (List.mem_cons_of_mem _ hm))]
        simp
theorem ib_ge {l : List UInt8} {c : UInt8} : 0 ≤ Lib.indexByte l c ↔ c ∈ l := by
  obtain ⟨h1, h2⟩ := ib_spec l c
  by_cases h : c ∈ l
  · rw [h1 h]; simp [h]
  · rw [h2 h]; simp [h]
theorem ib_cls {qs : List UInt8} {c : UInt8} : 0 ≤ Lib.indexByte qs (cls c.toNat).toUInt8 ↔ inCls (bytesL qs) c = true := by
  rw [ib_ge, inCls, bytesD_mk, List.any_eq_true]
  have hlt := cls_lt c.toNat
  constructor
  · intro h
    exact ⟨_, h, by simp; omega⟩
  · rintro ⟨x, hx, he⟩
    have : x = (cls c.toNat).toUInt8 := by
      rw [← UInt8.toNat_inj]
      simp at he ⊢
      omega
    rwa [← this]

theorem p0_p1 {n : Nat} {v : AV} (h : v.p0 n = true) : v.p1 n = true := by
  cases v with
  | fn f cap => simp only [AV.p0, List.isEmpty_iff] at h; subst h; rfl
  | agg cs => simp [AV.p0] at h
  | _ => first | exact h | rfl
theorem all_p0_p1 {n : Nat} {l : List AV} (h : l.all (AV.p0 n) = true) : l.all (AV.p1 n) = true := by
  rw [List.all_eq_true] at h ⊢
  exact fun x hx => p0_p1 (h x hx)
theorem p41 (m n : Int) (qs : List UInt8) (bs : List UInt8) (b0 b2 : List AV) (p q : Nat × TypeId) (h0 : b0.all (AV.p0 5) = true) (h2 : b2.all (AV.p0 5) = true) (hn0 : 0 ≤ n) (hn1 : n ≤ bs.length) (hl : bs.length ≤ 1000000) (hq : qs ≠ []) :
    OpenOk PP (G8 m) XL (tbl [(42, s42)]) (itbl []) (a41 n (bytesL qs) .full bs (S41 b0 b2 (bytesL bs) p q)) [] 41 [.int .i64 n, .sl 1 (bytesL qs) .full, .ptr 3 0, .ptr 4 0] (S41 b0 b2 (bytesL bs) p q) (.int .i64 (n + runL (bytesL qs) (bs.drop n.toNat)), S41 b0 b2 (bytesL bs) p q) := by
  constructor
  rw [w41]
  obtain ⟨k, rfl⟩ : ∃ k : Nat, n = k := ⟨n.toNat, by omega⟩
  have hok : boxesOk 5 [some b0, some keptClasses, some b2, some [AV.sl 1 (bytesL bs) Own.no], some [AV.ptr 1 0]] = true := by
    have hk : keptClasses.all (AV.p1 5) = true := by kernel_rfl
    simp only [boxesOk, all_p0_p1 h0, all_p0_p1 h2, hk, Bool.and_true, Bool.true_and]
    rfl
  have t38 : ∀ c : Nat, tbl [(42, s42)] 42 [.sl 1 (bytesL qs) .full, .int .u8 c] = some (.int .i64 (Lib.indexByte qs c.toUInt8), []) := fun c => by
    show s42 [.sl 1 (bytesL qs) .full, .int .u8 c] = _
    show (if 1 = 1 ∧ bytesL qs ≠ [] then onBytes (bytesL qs) fun bs => some (AV.int .i64 (Lib.indexByte bs ((c : Int)).toNat.toUInt8), ([] : List (Nat × TypeId))) else none) = _
    rw [if_pos ⟨rfl, by simpa [bytesL] using hq⟩, onBytes, unBytes_mk]
    rfl
  simp only [Nat.zero_add, valsAre_iff, stIs_iff, retOpen_iff, take_u8_iff agg5 size5, List.cons.injEq, AV.int.injEq, Prod.mk.injEq, and_true, true_and, hok, Bool.and_true, Int.toNat_natCast, bytesL_length, decide_eq_true_eq, decide_eq_false_iff_not]
  refine ⟨⟨0, by omega, by omega⟩, fun x hx => ⟨fun hlt => ⟨by omega, ((bs.getD (k + x) 0).toNat : Int), ⟨by omega, by rw [show ((k : Int) + x).toNat = k + x by omega]⟩, ⟨by omega, by have := (bs.getD (k + x) 0).toNat_lt; omega⟩, (cls (bs.getD (k + x) 0).toNat : Int), by simpa using cls_get _, _, ⟨t38 _⟩, fun hge => ?_, fun hge => ?_⟩, fun hge => ?_⟩⟩
  · rw [ge_iff_le, ib_cls] at hge
    rw [wrap64_in (by omega) (by omega)]
    refine ⟨x + 1, by omega, ?_, by omega⟩
    refine tw_next hx (by rw [List.length_drop]; omega) ?_
    rw [getD_drop']
    exact hge
  · rw [ge_iff_le, ib_cls] at hge
    have := tw_stop (p := inCls (bytesL qs)) (l := bs.drop k) (k := x) hx (fun _ => by rw [getD_drop']; simpa using hge)
    simp only [runL]
    rw [← this]
    exact ⟨rfl, rfl⟩
  · have := tw_stop (p := inCls (bytesL qs)) (l := bs.drop k) (k := x) hx (fun h => by rw [List.length_drop] at h; omega)
    simp only [runL]
    rw [← this]
    exact ⟨rfl, rfl⟩
end Go.Abs

namespace Go.Abs
open Go.Proofs L8
theorem w7 (m : Int) (bs : List UInt8) : (laxW PP (G8 m) XL (tbl t12) (itbl [(25, s25), (26, s26)]) (a7 bs) [] 7 [bytesA bs] (if bs.length ≤ 16384 then .tup [tkA (toksL bs) .no, badA (probsL bs) .no, .int .i64 0] else .tup [.sl 3 [] .no, .sl 2 [] .no, .int .i64 2], [])) =
(((decide ((↑(bytesL bs).length : Int) > (16384 : Int)) = true →
      RetLax (AV.tup [AV.sl (nat_lit 0) [] Own.nil, AV.sl (nat_lit 0) [] Own.nil, AV.int IntKind.i64 (2 : Int)])
        (if bs.length ≤ nat_lit 16384 then
 AV.tup [AV.sl (nat_lit 3) (List.map tokA (toksL bs)) Own.no, AV.sl (nat_lit 2) (List.map pbA (probsL bs)) Own.no, AV.int IntKind.i64 (0 : Int)]
 else AV.tup [AV.sl (nat_lit 3) [] Own.no, AV.sl (nat_lit 2) [] Own.no, AV.int IntKind.i64 (2 : Int)],
 [])) ∧
    (decide ((↑(bytesL bs).length : Int) > (16384 : Int)) = false →
      CallIs (some (keptClassesA, [])) keptClassesA [] ∧
        ∃ (y : X7),
 ValsAre
 [AV.sl (nat_lit 1) (bytesL bs) Own.no, AV.sl (nat_lit 3) [] (Own.tok (nat_lit 0)), AV.ptr (nat_lit 0) (nat_lit 0), AV.int IntKind.i64 (0 : Int),
 AV.ptr (nat_lit 1) (nat_lit 0), AV.ptr (nat_lit 2) (nat_lit 0), AV.int IntKind.i64 (-1 : Int),
 AV.fn (nat_lit 25) [AV.ptr (nat_lit 0) (nat_lit 0), AV.ptr (nat_lit 2) (nat_lit 0)]]
 [AV.sl (nat_lit 1) (bytesL bs) Own.no, AV.sl (nat_lit 3) (List.map tokA y.l) (Own.tok (nat_lit 0)), AV.ptr (nat_lit 0) (nat_lit 0),
 AV.int IntKind.i64 (0 : Int), AV.ptr (nat_lit 1) (nat_lit 0), AV.ptr (nat_lit 2) (nat_lit 0), AV.int IntKind.i64 y.st,
 AV.fn (nat_lit 25) [AV.ptr (nat_lit 0) (nat_lit 0), AV.ptr (nat_lit 2) (nat_lit 0)]] ∧
 StIs
 { boxes := [some [AV.sl (nat_lit 2) [] (Own.tok (nat_lit 1))], some keptClasses, some [AV.int IntKind.i64 (0 : Int)]], live := [(nat_lit 0, nat_lit 34), (nat_lit 0, nat_lit 43)] }
 { boxes := [some [AV.sl (nat_lit 2) (List.map pbA (List.take (nat_lit 32) y.b)) (Own.tok (nat_lit 1))], some keptClasses, some [AV.int IntKind.i64 (↑y.p : Int)]], live := [(y.l.length, nat_lit 34), ((List.take (nat_lit 32) y.b).length, nat_lit 43)] } ∧
 Inv7 bs y ∧ True)) ∧
  (∀ (x : X7),
      Inv7 bs x →
        (((↑x.p : Int) == (↑(bytesL bs).length : Int)) = true →
 (nat_lit 3 = nat_lit 3 ∨ List.map tokA x.l = []) ∧
 ((List.map tokA x.l).length + (1 : Nat)) * nat_lit 33 ≤ nat_lit 70368744177664 ∧
 x.l.length = (List.map tokA x.l).length ∧
 RetLax
 (AV.tup
 [AV.sl (nat_lit 3) (List.map tokA x.l ++ [AV.agg [AV.int IntKind.i64 (6 : Int), AV.str [], AV.int IntKind.i64 (↑x.p : Int)]])
 (Own.tok (nat_lit 0)),
 AV.sl (nat_lit 2) (List.map pbA (List.take (nat_lit 32) x.b)) (Own.tok (nat_lit 1)), AV.int IntKind.i64 (0 : Int)])
 (if bs.length ≤ nat_lit 16384 then
 AV.tup
 [AV.sl (nat_lit 3) (List.map tokA (toksL bs)) Own.no, AV.sl (nat_lit 2) (List.map pbA (probsL bs)) Own.no,
 AV.int IntKind.i64 (0 : Int)]
 else AV.tup [AV.sl (nat_lit 3) [] Own.no, AV.sl (nat_lit 2) [] Own.no, AV.int IntKind.i64 (2 : Int)],
 [])) ∧
 (((↑x.p : Int) == (↑(bytesL bs).length : Int)) = false →
 (keptClasses = keptClasses ∧
 ([AV.sl (nat_lit 2) (List.map pbA (List.take (nat_lit 32) x.b)) (Own.tok (nat_lit 1))].all (AV.p0 (3 : Nat)) = true ∧
 [AV.int IntKind.i64 (↑x.p : Int)].all (AV.p0 (3 : Nat)) = true) ∧
 ∃ (bs_1 : List UInt8),
 bytesL bs = bytesL bs_1 ∧ bs_1.length ≤ nat_lit 1000000 ∧ (0 : Int) ≤ (↑x.p : Int) ∧ (↑x.p : Int) < (↑bs_1.length : Int)) ∧
 (((piece (List.drop (↑x.p : Int).toNat (bytesD (bytesL bs)))).fst == (-1 : Int)) = true →
 ∃ (y : X7),
 ValsAre
 [AV.sl (nat_lit 1) (bytesL bs) Own.no, AV.sl (nat_lit 3) (List.map tokA x.l) (Own.tok (nat_lit 0)), AV.ptr (nat_lit 0) (nat_lit 0),
 AV.int IntKind.i64 (0 : Int), AV.ptr (nat_lit 1) (nat_lit 0), AV.ptr (nat_lit 2) (nat_lit 0), AV.int IntKind.i64 x.st,
 AV.fn (nat_lit 25) [AV.ptr (nat_lit 0) (nat_lit 0), AV.ptr (nat_lit 2) (nat_lit 0)],
 AV.int IntKind.i64 (piece (List.drop (↑x.p : Int).toNat (bytesD (bytesL bs)))).snd.snd]
 [AV.sl (nat_lit 1) (bytesL bs) Own.no, AV.sl (nat_lit 3) (List.map tokA y.l) (Own.tok (nat_lit 0)), AV.ptr (nat_lit 0) (nat_lit 0),
 AV.int IntKind.i64 (0 : Int), AV.ptr (nat_lit 1) (nat_lit 0), AV.ptr (nat_lit 2) (nat_lit 0), AV.int IntKind.i64 y.st,
 AV.fn (nat_lit 25) [AV.ptr (nat_lit 0) (nat_lit 0), AV.ptr (nat_lit 2) (nat_lit 0)], AV.int IntKind.i64 y.code] ∧
 StIs
 { boxes := [some [AV.sl (nat_lit 2) (List.map pbA (List.take (nat_lit 32) x.b)) (Own.tok (nat_lit 1))], some keptClasses, some [AV.int IntKind.i64 (↑x.p : Int)]], live := [(x.l.length, nat_lit 34), ((List.take (nat_lit 32) x.b).length, nat_lit 43)] }
 { boxes := [some [AV.sl (nat_lit 2) (List.map pbA (List.take (nat_lit 32) y.b)) (Own.tok (nat_lit 1))], some keptClasses, some [AV.int IntKind.i64 (↑y.p : Int)]], live := [(y.l.length, nat_lit 34), ((List.take (nat_lit 32) y.b).length, nat_lit 43)] } ∧
 Inv7b bs y ∧ nat_lit 2 * (bs.length - y.p) < nat_lit 2 * (bs.length - x.p) + nat_lit 1) ∧
 (((piece (List.drop (↑x.p : Int).toNat (bytesD (bytesL bs)))).fst == (-1 : Int)) = false →
 (((piece (List.drop (↑x.p : Int).toNat (bytesD (bytesL bs)))).snd.snd != (0 : Int)) = true →
 ((List.take (nat_lit 32) x.b).length = (List.map pbA (List.take (nat_lit 32) x.b)).length ∧
 keptClasses = keptClasses ∧ (List.map pbA (List.take (nat_lit 32) x.b)).length ≤ nat_lit 1000000) ∧
 ∃ (y : X7),
 ValsAre
 [AV.sl (nat_lit 1) (bytesL bs) Own.no, AV.sl (nat_lit 3) (List.map tokA x.l) (Own.tok (nat_lit 0)),
 AV.ptr (nat_lit 0) (nat_lit 0), AV.int IntKind.i64 (0 : Int), AV.ptr (nat_lit 1) (nat_lit 0), AV.ptr (nat_lit 2) (nat_lit 0),
 AV.int IntKind.i64 x.st, AV.fn (nat_lit 25) [AV.ptr (nat_lit 0) (nat_lit 0), AV.ptr (nat_lit 2) (nat_lit 0)]]
 [AV.sl (nat_lit 1) (bytesL bs) Own.no, AV.sl (nat_lit 3) (List.map tokA y.l) (Own.tok (nat_lit 0)),
 AV.ptr (nat_lit 0) (nat_lit 0), AV.int IntKind.i64 (0 : Int), AV.ptr (nat_lit 1) (nat_lit 0), AV.ptr (nat_lit 2) (nat_lit 0),
 AV.int IntKind.i64 y.st, AV.fn (nat_lit 25) [AV.ptr (nat_lit 0) (nat_lit 0), AV.ptr (nat_lit 2) (nat_lit 0)]] ∧
 StIs
 { boxes := [some [AV.sl (nat_lit 2) (if (List.map pbA (List.take (nat_lit 32) x.b)).length < nat_lit 32 then List.map pbA (List.take (nat_lit 32) x.b) ++ [AV.agg [AV.int IntKind.i64 (↑x.p : Int), AV.int IntKind.i64 (piece (List.drop (↑x.p : Int).toNat (bytesD (bytesL bs)))).snd.snd]] else List.map pbA (List.take (nat_lit 32) x.b)) (Own.tok (nat_lit 1))], some keptClasses, some [AV.int IntKind.i64 ((↑x.p : Int) + (↑(piece (List.drop (↑x.p : Int).toNat (bytesD (bytesL bs)))).snd.fst : Int))]], live := [(x.l.length, nat_lit 34), (if (List.map pbA (List.take (nat_lit 32) x.b)).length < nat_lit 32 then (List.take (nat_lit 32) x.b).length + nat_lit 1 else (List.take (nat_lit 32) x.b).length, nat_lit 43)] }
 { boxes := [some [AV.sl (nat_lit 2) (List.map pbA (List.take (nat_lit 32) y.b)) (Own.tok (nat_lit 1))], some keptClasses, some [AV.int IntKind.i64 (↑y.p : Int)]], live := [(y.l.length, nat_lit 34), ((List.take (nat_lit 32) y.b).length, nat_lit 43)] } ∧
 Inv7 bs y ∧ nat_lit 2 * (bs.length - y.p) + nat_lit 1 < nat_lit 2 * (bs.length - x.p) + nat_lit 1) ∧
 (((piece (List.drop (↑x.p : Int).toNat (bytesD (bytesL bs)))).snd.snd != (0 : Int)) = false →
 (((piece (List.drop (↑x.p : Int).toNat (bytesD (bytesL bs)))).fst == (4 : Int)) = true →
 (0 : Int) ≤ IntKind.i64.wrap ((↑x.p : Int) + (1 : Int)) ∧
 (0 : Int) ≤
 IntKind.i64.wrap ((↑x.p : Int) + (↑(piece (List.drop (↑x.p : Int).toNat (bytesD (bytesL bs)))).snd.fst : Int) - (1 : Int)) ∧
 ((IntKind.i64.wrap ((↑x.p : Int) + (1 : Int))).toNat ≤
 (IntKind.i64.wrap
 ((↑x.p : Int) + (↑(piece (List.drop (↑x.p : Int).toNat (bytesD (bytesL bs)))).snd.fst : Int) - (1 : Int))).toNat ∧
 (IntKind.i64.wrap
 ((↑x.p : Int) + (↑(piece (List.drop (↑x.p : Int).toNat (bytesD (bytesL bs)))).snd.fst : Int) - (1 : Int))).toNat ≤
 (bytesL bs).length) ∧
 (nat_lit 1 = nat_lit 1 ∨ bytesL bs = []) ∧
 (nat_lit 1 = nat_lit 1 ∨
 List.drop (IntKind.i64.wrap ((↑x.p : Int) + (1 : Int))).toNat
 (List.take
 (IntKind.i64.wrap
 ((↑x.p : Int) + (↑(piece (List.drop (↑x.p : Int).toNat (bytesD (bytesL bs)))).snd.fst : Int) - (1 : Int))).toNat
 (bytesL bs)) =
 []) ∧
 ∃ (l : List UInt8),
 List.mapM byteOf
 (List.drop (IntKind.i64.wrap ((↑x.p : Int) + (1 : Int))).toNat
 (List.take
 (IntKind.i64.wrap
 ((↑x.p : Int) + (↑(piece (List.drop (↑x.p : Int).toNat (bytesD (bytesL bs)))).snd.fst : Int) -
 (1 : Int))).toNat
 (bytesL bs))) =
 some l ∧
 (nat_lit 3 = nat_lit 3 ∨ List.map tokA x.l = []) ∧
 ((List.map tokA x.l).length + (1 : Nat)) * nat_lit 33 ≤ nat_lit 70368744177664 ∧
 x.l.length = (List.map tokA x.l).length ∧
 ∃ (y : X7),
 ValsAre
 [AV.sl (nat_lit 1) (bytesL bs) Own.no,
 AV.sl (nat_lit 3)
 (List.map tokA x.l ++
 [AV.agg
 [AV.int IntKind.i64 (piece (List.drop (↑x.p : Int).toNat (bytesD (bytesL bs)))).fst, AV.str l,
 AV.int IntKind.i64 (↑x.p : Int)]])
 (Own.tok (nat_lit 0)),
 AV.ptr (nat_lit 0) (nat_lit 0), AV.int IntKind.i64 (0 : Int), AV.ptr (nat_lit 1) (nat_lit 0),
 AV.ptr (nat_lit 2) (nat_lit 0), AV.int IntKind.i64 x.st,
 AV.fn (nat_lit 25) [AV.ptr (nat_lit 0) (nat_lit 0), AV.ptr (nat_lit 2) (nat_lit 0)]]
 [AV.sl (nat_lit 1) (bytesL bs) Own.no, AV.sl (nat_lit 3) (List.map tokA y.l) (Own.tok (nat_lit 0)),
 AV.ptr (nat_lit 0) (nat_lit 0), AV.int IntKind.i64 (0 : Int), AV.ptr (nat_lit 1) (nat_lit 0),
 AV.ptr (nat_lit 2) (nat_lit 0), AV.int IntKind.i64 y.st,
 AV.fn (nat_lit 25) [AV.ptr (nat_lit 0) (nat_lit 0), AV.ptr (nat_lit 2) (nat_lit 0)]] ∧
 StIs
 { boxes := [some [AV.sl (nat_lit 2) (List.map pbA (List.take (nat_lit 32) x.b)) (Own.tok (nat_lit 1))], some keptClasses, some [AV.int IntKind.i64 ((↑x.p : Int) + (↑(piece (List.drop (↑x.p : Int).toNat (bytesD (bytesL bs)))).snd.fst : Int))]], live := [((List.map tokA x.l).length + nat_lit 1, nat_lit 34), ((List.take (nat_lit 32) x.b).length, nat_lit 43)] }
 { boxes := [some [AV.sl (nat_lit 2) (List.map pbA (List.take (nat_lit 32) y.b)) (Own.tok (nat_lit 1))], some keptClasses, some [AV.int IntKind.i64 (↑y.p : Int)]], live := [(y.l.length, nat_lit 34), ((List.take (nat_lit 32) y.b).length, nat_lit 43)] } ∧
 Inv7 bs y ∧ nat_lit 2 * (bs.length - y.p) + nat_lit 1 < nat_lit 2 * (bs.length - x.p) + nat_lit 1) ∧
 (((piece (List.drop (↑x.p : Int).toNat (bytesD (bytesL bs)))).fst == (4 : Int)) = false →
 (((piece (List.drop (↑x.p : Int).toNat (bytesD (bytesL bs)))).fst != (0 : Int)) = true →
 (0 : Int) ≤ (↑x.p : Int) ∧
 (0 : Int) ≤ (↑x.p : Int) + (↑(piece (List.drop (↑x.p : Int).toNat (bytesD (bytesL bs)))).snd.fst : Int) ∧
 ((↑x.p : Int).toNat ≤ ((↑x.p : Int) + (↑(piece (List.drop (↑x.p : Int).toNat (bytesD (bytesL bs)))).snd.fst : Int)).toNat ∧
 ((↑x.p : Int) + (↑(piece (List.drop (↑x.p : Int).toNat (bytesD (bytesL bs)))).snd.fst : Int)).toNat ≤
 (bytesL bs).length) ∧
 (nat_lit 1 = nat_lit 1 ∨ bytesL bs = []) ∧
 (nat_lit 1 = nat_lit 1 ∨
 List.drop (↑x.p : Int).toNat
 (List.take ((↑x.p : Int) + (↑(piece (List.drop (↑x.p : Int).toNat (bytesD (bytesL bs)))).snd.fst : Int)).toNat
 (bytesL bs)) =
 []) ∧
 ∃ (l : List UInt8),
 List.mapM byteOf
 (List.drop (↑x.p : Int).toNat
 (List.take ((↑x.p : Int) + (↑(piece (List.drop (↑x.p : Int).toNat (bytesD (bytesL bs)))).snd.fst : Int)).toNat
 (bytesL bs))) =
 some l ∧
 (nat_lit 3 = nat_lit 3 ∨ List.map tokA x.l = []) ∧
 ((List.map tokA x.l).length + (1 : Nat)) * nat_lit 33 ≤ nat_lit 70368744177664 ∧
 x.l.length = (List.map tokA x.l).length ∧
 ∃ (y : X7),
 ValsAre
 [AV.sl (nat_lit 1) (bytesL bs) Own.no,
 AV.sl (nat_lit 3)
 (List.map tokA x.l ++
 [AV.agg
 [AV.int IntKind.i64 (piece (List.drop (↑x.p : Int).toNat (bytesD (bytesL bs)))).fst, AV.str l,
 AV.int IntKind.i64 (↑x.p : Int)]])
 (Own.tok (nat_lit 0)),
 AV.ptr (nat_lit 0) (nat_lit 0), AV.int IntKind.i64 (0 : Int), AV.ptr (nat_lit 1) (nat_lit 0),
 AV.ptr (nat_lit 2) (nat_lit 0), AV.int IntKind.i64 x.st,
 AV.fn (nat_lit 25) [AV.ptr (nat_lit 0) (nat_lit 0), AV.ptr (nat_lit 2) (nat_lit 0)]]
 [AV.sl (nat_lit 1) (bytesL bs) Own.no, AV.sl (nat_lit 3) (List.map tokA y.l) (Own.tok (nat_lit 0)),
 AV.ptr (nat_lit 0) (nat_lit 0), AV.int IntKind.i64 (0 : Int), AV.ptr (nat_lit 1) (nat_lit 0),
 AV.ptr (nat_lit 2) (nat_lit 0), AV.int IntKind.i64 y.st,
 AV.fn (nat_lit 25) [AV.ptr (nat_lit 0) (nat_lit 0), AV.ptr (nat_lit 2) (nat_lit 0)]] ∧
 StIs
 { boxes := [some [AV.sl (nat_lit 2) (List.map pbA (List.take (nat_lit 32) x.b)) (Own.tok (nat_lit 1))], some keptClasses, some [AV.int IntKind.i64 ((↑x.p : Int) + (↑(piece (List.drop (↑x.p : Int).toNat (bytesD (bytesL bs)))).snd.fst : Int))]], live := [((List.map tokA x.l).length + nat_lit 1, nat_lit 34), ((List.take (nat_lit 32) x.b).length, nat_lit 43)] }
 { boxes := [some [AV.sl (nat_lit 2) (List.map pbA (List.take (nat_lit 32) y.b)) (Own.tok (nat_lit 1))], some keptClasses, some [AV.int IntKind.i64 (↑y.p : Int)]], live := [(y.l.length, nat_lit 34), ((List.take (nat_lit 32) y.b).length, nat_lit 43)] } ∧
 Inv7 bs y ∧ nat_lit 2 * (bs.length - y.p) + nat_lit 1 < nat_lit 2 * (bs.length - x.p) + nat_lit 1) ∧
 (((piece (List.drop (↑x.p : Int).toNat (bytesD (bytesL bs)))).fst != (0 : Int)) = false →
 ∃ (y : X7),
 ValsAre
 [AV.sl (nat_lit 1) (bytesL bs) Own.no, AV.sl (nat_lit 3) (List.map tokA x.l) (Own.tok (nat_lit 0)),
 AV.ptr (nat_lit 0) (nat_lit 0), AV.int IntKind.i64 (0 : Int), AV.ptr (nat_lit 1) (nat_lit 0),
 AV.ptr (nat_lit 2) (nat_lit 0), AV.int IntKind.i64 x.st,
 AV.fn (nat_lit 25) [AV.ptr (nat_lit 0) (nat_lit 0), AV.ptr (nat_lit 2) (nat_lit 0)]]
 [AV.sl (nat_lit 1) (bytesL bs) Own.no, AV.sl (nat_lit 3) (List.map tokA y.l) (Own.tok (nat_lit 0)),
 AV.ptr (nat_lit 0) (nat_lit 0), AV.int IntKind.i64 (0 : Int), AV.ptr (nat_lit 1) (nat_lit 0),
 AV.ptr (nat_lit 2) (nat_lit 0), AV.int IntKind.i64 y.st,
 AV.fn (nat_lit 25) [AV.ptr (nat_lit 0) (nat_lit 0), AV.ptr (nat_lit 2) (nat_lit 0)]] ∧
 StIs
 { boxes := [some [AV.sl (nat_lit 2) (List.map pbA (List.take (nat_lit 32) x.b)) (Own.tok (nat_lit 1))], some keptClasses, some [AV.int IntKind.i64 ((↑x.p : Int) + (↑(piece (List.drop (↑x.p : Int).toNat (bytesD (bytesL bs)))).snd.fst : Int))]], live := [(x.l.length, nat_lit 34), ((List.take (nat_lit 32) x.b).length, nat_lit 43)] }
 { boxes := [some [AV.sl (nat_lit 2) (List.map pbA (List.take (nat_lit 32) y.b)) (Own.tok (nat_lit 1))], some keptClasses, some [AV.int IntKind.i64 (↑y.p : Int)]], live := [(y.l.length, nat_lit 34), ((List.take (nat_lit 32) y.b).length, nat_lit 43)] } ∧
 Inv7 bs y ∧ nat_lit 2 * (bs.length - y.p) + nat_lit 1 < nat_lit 2 * (bs.length - x.p) + nat_lit 1)))))) ∧
    (∀ (x : X7),
        Inv7b bs x →
 ((x.st != IntKind.i64.wrap ((↑x.p : Int) - (1 : Int))) = true →
 ((List.take (nat_lit 32) x.b).length = (List.map pbA (List.take (nat_lit 32) x.b)).length ∧
 keptClasses = keptClasses ∧ (List.map pbA (List.take (nat_lit 32) x.b)).length ≤ nat_lit 1000000) ∧
 ∃ (y : X7),
 ValsAre
 [AV.sl (nat_lit 1) (bytesL bs) Own.no, AV.sl (nat_lit 3) (List.map tokA x.l) (Own.tok (nat_lit 0)), AV.ptr (nat_lit 0) (nat_lit 0),
 AV.int IntKind.i64 (0 : Int), AV.ptr (nat_lit 1) (nat_lit 0), AV.ptr (nat_lit 2) (nat_lit 0), AV.int IntKind.i64 (↑x.p : Int),
 AV.fn (nat_lit 25) [AV.ptr (nat_lit 0) (nat_lit 0), AV.ptr (nat_lit 2) (nat_lit 0)]]
 [AV.sl (nat_lit 1) (bytesL bs) Own.no, AV.sl (nat_lit 3) (List.map tokA y.l) (Own.tok (nat_lit 0)), AV.ptr (nat_lit 0) (nat_lit 0),
 AV.int IntKind.i64 (0 : Int), AV.ptr (nat_lit 1) (nat_lit 0), AV.ptr (nat_lit 2) (nat_lit 0), AV.int IntKind.i64 y.st,
 AV.fn (nat_lit 25) [AV.ptr (nat_lit 0) (nat_lit 0), AV.ptr (nat_lit 2) (nat_lit 0)]] ∧
 StIs
 { boxes := [some [AV.sl (nat_lit 2) (if (List.map pbA (List.take (nat_lit 32) x.b)).length < nat_lit 32 then List.map pbA (List.take (nat_lit 32) x.b) ++ [AV.agg [AV.int IntKind.i64 (↑x.p : Int), AV.int IntKind.i64 x.code]] else List.map pbA (List.take (nat_lit 32) x.b)) (Own.tok (nat_lit 1))], some keptClasses, some [AV.int IntKind.i64 (IntKind.i64.wrap ((↑x.p : Int) + (1 : Int)))]], live := [(x.l.length, nat_lit 34), (if (List.map pbA (List.take (nat_lit 32) x.b)).length < nat_lit 32 then (List.take (nat_lit 32) x.b).length + nat_lit 1 else (List.take (nat_lit 32) x.b).length, nat_lit 43)] }
 { boxes := [some [AV.sl (nat_lit 2) (List.map pbA (List.take (nat_lit 32) y.b)) (Own.tok (nat_lit 1))], some keptClasses, some [AV.int IntKind.i64 (↑y.p : Int)]], live := [(y.l.length, nat_lit 34), ((List.take (nat_lit 32) y.b).length, nat_lit 43)] } ∧
 Inv7 bs y ∧ nat_lit 2 * (bs.length - y.p) + nat_lit 1 < nat_lit 2 * (bs.length - x.p)) ∧
 ((x.st != IntKind.i64.wrap ((↑x.p : Int) - (1 : Int))) = false →
 (((↑x.p : Int) == (0 : Int)) = true →
 ((List.take (nat_lit 32) x.b).length = (List.map pbA (List.take (nat_lit 32) x.b)).length ∧
 keptClasses = keptClasses ∧ (List.map pbA (List.take (nat_lit 32) x.b)).length ≤ nat_lit 1000000) ∧
 ∃ (y : X7),
 ValsAre
 [AV.sl (nat_lit 1) (bytesL bs) Own.no, AV.sl (nat_lit 3) (List.map tokA x.l) (Own.tok (nat_lit 0)), AV.ptr (nat_lit 0) (nat_lit 0),
 AV.int IntKind.i64 (0 : Int), AV.ptr (nat_lit 1) (nat_lit 0), AV.ptr (nat_lit 2) (nat_lit 0), AV.int IntKind.i64 (↑x.p : Int),
 AV.fn (nat_lit 25) [AV.ptr (nat_lit 0) (nat_lit 0), AV.ptr (nat_lit 2) (nat_lit 0)]]
 [AV.sl (nat_lit 1) (bytesL bs) Own.no, AV.sl (nat_lit 3) (List.map tokA y.l) (Own.tok (nat_lit 0)), AV.ptr (nat_lit 0) (nat_lit 0),
 AV.int IntKind.i64 (0 : Int), AV.ptr (nat_lit 1) (nat_lit 0), AV.ptr (nat_lit 2) (nat_lit 0), AV.int IntKind.i64 y.st,
 AV.fn (nat_lit 25) [AV.ptr (nat_lit 0) (nat_lit 0), AV.ptr (nat_lit 2) (nat_lit 0)]] ∧
 StIs
 { boxes := [some [AV.sl (nat_lit 2) (if (List.map pbA (List.take (nat_lit 32) x.b)).length < nat_lit 32 then List.map pbA (List.take (nat_lit 32) x.b) ++ [AV.agg [AV.int IntKind.i64 (↑x.p : Int), AV.int IntKind.i64 x.code]] else List.map pbA (List.take (nat_lit 32) x.b)) (Own.tok (nat_lit 1))], some keptClasses, some [AV.int IntKind.i64 (IntKind.i64.wrap ((↑x.p : Int) + (1 : Int)))]], live := [(x.l.length, nat_lit 34), (if (List.map pbA (List.take (nat_lit 32) x.b)).length < nat_lit 32 then (List.take (nat_lit 32) x.b).length + nat_lit 1 else (List.take (nat_lit 32) x.b).length, nat_lit 43)] }
 { boxes := [some [AV.sl (nat_lit 2) (List.map pbA (List.take (nat_lit 32) y.b)) (Own.tok (nat_lit 1))], some keptClasses, some [AV.int IntKind.i64 (↑y.p : Int)]], live := [(y.l.length, nat_lit 34), ((List.take (nat_lit 32) y.b).length, nat_lit 43)] } ∧
 Inv7 bs y ∧ nat_lit 2 * (bs.length - y.p) + nat_lit 1 < nat_lit 2 * (bs.length - x.p)) ∧
 (((↑x.p : Int) == (0 : Int)) = false →
 ∃ (y : X7),
 ValsAre
 [AV.sl (nat_lit 1) (bytesL bs) Own.no, AV.sl (nat_lit 3) (List.map tokA x.l) (Own.tok (nat_lit 0)), AV.ptr (nat_lit 0) (nat_lit 0),
 AV.int IntKind.i64 (0 : Int), AV.ptr (nat_lit 1) (nat_lit 0), AV.ptr (nat_lit 2) (nat_lit 0), AV.int IntKind.i64 (↑x.p : Int),
 AV.fn (nat_lit 25) [AV.ptr (nat_lit 0) (nat_lit 0), AV.ptr (nat_lit 2) (nat_lit 0)]]
 [AV.sl (nat_lit 1) (bytesL bs) Own.no, AV.sl (nat_lit 3) (List.map tokA y.l) (Own.tok (nat_lit 0)), AV.ptr (nat_lit 0) (nat_lit 0),
 AV.int IntKind.i64 (0 : Int), AV.ptr (nat_lit 1) (nat_lit 0), AV.ptr (nat_lit 2) (nat_lit 0), AV.int IntKind.i64 y.st,
 AV.fn (nat_lit 25) [AV.ptr (nat_lit 0) (nat_lit 0), AV.ptr (nat_lit 2) (nat_lit 0)]] ∧
 StIs
 { boxes := [some [AV.sl (nat_lit 2) (List.map pbA (List.take (nat_lit 32) x.b)) (Own.tok (nat_lit 1))], some keptClasses, some [AV.int IntKind.i64 (IntKind.i64.wrap ((↑x.p : Int) + (1 : Int)))]], live := [(x.l.length, nat_lit 34), ((List.take (nat_lit 32) x.b).length, nat_lit 43)] }
 { boxes := [some [AV.sl (nat_lit 2) (List.map pbA (List.take (nat_lit 32) y.b)) (Own.tok (nat_lit 1))], some keptClasses, some [AV.int IntKind.i64 (↑y.p : Int)]], live := [(y.l.length, nat_lit 34), ((List.take (nat_lit 32) y.b).length, nat_lit 43)] } ∧
 Inv7 bs y ∧ nat_lit 2 * (bs.length - y.p) + nat_lit 1 < nat_lit 2 * (bs.length - x.p)))) ∧
      True) := by kernel_rfl
end Go.Abs

namespace Go.Abs
open Go.Proofs L8

theorem take32 {α : Type} (l : List α) (e : α) : (l ++ [e]).take 32 = if (l.take 32).length < 32 then l.take 32 ++ [e] else l.take 32 := by
  rw [List.length_take]
  by_cases h : l.length < 32
  · rw [if_pos (by omega), List.take_of_length_le (l := l) (by omega), List.take_of_length_le (by simp; omega)]
  · rw [if_neg (by omega), List.take_append_of_le_length (by omega)]
def nextX (bs : List UInt8) (x : X7) : X7 := ⟨x.l ++ tkOf (bs.drop x.p) x.p, x.b ++ pbOf (bs.drop x.p) x.p x.adj, x.p + (piece (bs.drop x.p)).2.1, false, x.st, 0⟩
def oddX (bs : List UInt8) (x : X7) : X7 := ⟨x.l, x.b ++ pbOf (bs.drop x.p) x.p x.adj, x.p + 1, true, x.p, 0⟩
theorem drop_ne {bs : List UInt8} {p : Nat} (h : p < bs.length) : bs.drop p ≠ [] := by
  intro e
  have := congrArg List.length e
  simp at this
  omega
theorem piece_pos' {l : List UInt8} (h : l ≠ []) : 1 ≤ (piece l).2.1 := by
  cases l with
  | nil => exact absurd rfl h
  | cons c t => exact piece_pos c t
theorem next_le {bs : List UInt8} {x : X7} (hp : x.p < bs.length) : x.p + (piece (bs.drop x.p)).2.1 ≤ bs.length ∧ 1 ≤ (piece (bs.drop x.p)).2.1 := by
  have h1 := piece_le (bs.drop x.p)
  have h2 := piece_pos' (drop_ne hp)
  rw [List.length_drop] at h1
  omega
theorem inv_next {bs : List UInt8} {x : X7} (h : Inv7 bs x) (hp : x.p < bs.length) (hk : (piece (bs.drop x.p)).1 ≠ -1) : Inv7 bs (nextX bs x) := by
  obtain ⟨h01, h02, h1, h2, h3, h4, h5⟩ := h
  obtain ⟨k1, k2⟩ := next_le hp
  have hs := scan_step (drop_ne hp) x.p x.adj
  have ha : adjOf (bs.drop x.p) = false := by simp [adjOf, hk]
  rw [List.drop_drop, ha] at hs
  refine ⟨h01, ?_, k1, ?_, ?_, ?_, ?_⟩
  · simp only [nextX, List.length_append]
    have : (tkOf (bs.drop x.p) x.p).length ≤ 1 := by unfold tkOf; split <;> simp
    omega
  · rw [← h2, hs]; simp only [nextX, List.append_assoc]
  · rw [← h3, hs]; simp only [nextX, List.append_assoc]
  · simp only [nextX]; constructor
    · intro h; cases h
    · rintro ⟨h, _⟩; omega
  · simp only [nextX]; omega
theorem piece_un {c : UInt8} {t : List UInt8} (h : (piece (c :: t)).1 = -1) : (piece (c :: t)).2.1 = 1 ∧ (piece (c :: t)).2.2 = 80 := by
  simp only [piece] at h ⊢
  repeat' split at h
  all_goals first
    | (exfalso; revert h; simp; done)
    | (simp_all; done)
    | (rename_i h1 h2 h3 h4 h5 h6 h7
       rw [if_neg h1, if_neg h2, if_neg h3, if_neg h4, if_neg h5, if_neg h6, if_neg h7]
       exact ⟨rfl, rfl⟩)
theorem tkOf_un {l : List UInt8} {a : Nat} (h : (piece l).1 = -1) : tkOf l a = [] := by simp [tkOf, h]
theorem inv_odd {bs : List UInt8} {x : X7} (h : Inv7 bs x) (hp : x.p < bs.length) (hk : (piece (bs.drop x.p)).1 = -1) : Inv7 bs (oddX bs x) := by
  obtain ⟨h01, h02, h1, h2, h3, h4, h5⟩ := h
  obtain ⟨k1, k2⟩ := next_le hp
  have hs := scan_step (drop_ne hp) x.p x.adj
  have ha : adjOf (bs.drop x.p) = true := by simp [adjOf, hk]
  have hone : (piece (bs.drop x.p)).2.1 = 1 := by
    cases hd : bs.drop x.p with
    | nil => exact absurd hd (drop_ne hp)
    | cons c t => rw [hd] at hk; exact (piece_un hk).1
  rw [List.drop_drop, ha, hone, tkOf_un hk] at hs
  refine ⟨h01, by simp only [oddX]; omega, by simp only [oddX]; omega, ?_, ?_, ?_, ?_⟩
  · rw [← h2, hs]; simp only [oddX, List.nil_append]
  · rw [← h3, hs]; simp only [oddX, List.append_assoc]
  · simp [oddX]
  · simp only [oddX]; omega
theorem byteOf_mk (c : UInt8) : byteOf (.int .u8 c.toNat) = some c := by
  have h := c.toNat_lt
  simp [byteOf]
theorem mapByte : ∀ (l : List UInt8), (bytesL l).mapM byteOf = some l
  | [] => rfl
  | c :: l => by
    have ih := mapByte l
    simp only [bytesL, List.map_cons] at ih ⊢
    rw [List.mapM_cons, byteOf_mk, ih]
    rfl
theorem drop_take_bytes (bs : List UInt8) (i j : Nat) : ((bytesL bs).take j).drop i = bytesL ((bs.take j).drop i) := by
  simp [bytesL, List.map_take, List.map_drop]
theorem txt4 {bs : List UInt8} {p : Nat} (h : (piece (bs.drop p)).1 = 4) : (bs.take (p + (piece (bs.drop p)).2.1 - 1)).drop (p + 1) = txtOf (bs.drop p) := by
  rw [txtOf, if_pos h, List.drop_take]
  rw [show p + (piece (bs.drop p)).2.1 - 1 - (p + 1) = (piece (bs.drop p)).2.1 - 2 by omega]
  generalize (piece (bs.drop p)).2.1 = n
  rw [List.drop_take, List.drop_drop, List.take_take]
  congr 1
  omega
theorem txtn {bs : List UInt8} {p : Nat} (h : (piece (bs.drop p)).1 ≠ 4) : (bs.take (p + (piece (bs.drop p)).2.1)).drop p = txtOf (bs.drop p) := by
  rw [txtOf, if_neg h, List.drop_take]
  congr 1
  omega
theorem piece_four {l : List UInt8} (h : (piece l).1 = 4) : 2 ≤ (piece l).2.1 := by
  cases l with
  | nil => simp [piece] at h
  | cons c t =>
    simp only [piece] at h ⊢
    repeat' split at h
    all_goals first | (exfalso; revert h; simp; done) | (simp_all; done)

def r7 (bs : List UInt8) : AV × List (Nat × TypeId) := (if bs.length ≤ 16384 then .tup [tkA (toksL bs) .no, badA (probsL bs) .no, .int .i64 0] else .tup [.sl 3 [] .no, .sl 2 [] .no, .int .i64 2], [])
theorem p7 (m : Int) (bs : List UInt8) : LaxOk PP (G8 m) XL (tbl t12) (itbl [(25, s25), (26, s26)]) (a7 bs) [] 7 [bytesA bs] (r7 bs) := by
  constructor
  unfold r7
  rw [w7]
  simp only [bytesD_mk, Int.toNat_natCast, List.length_map, valsAre_iff, stIs_iff, retLax_iff, decide_eq_true_eq, decide_eq_false_iff_not, gt_iff_lt, true_or, true_and, and_true, List.cons.injEq, AV.sl.injEq, AV.int.injEq, Option.some.injEq, Prod.mk.injEq, St.mk.injEq, beq_iff_eq, bne_iff_ne, beq_eq_false_iff_ne, bne_eq_false_iff_eq, ne_eq]
  have lx : ∀ {A B C D}, A = C → B = D → Lax2 (AV.tup [AV.sl 3 A (.tok 0), AV.sl 2 B (.tok 1), AV.int .i64 0]) (AV.tup [AV.sl 3 C .no, AV.sl 2 D .no, AV.int .i64 0]) := fun h1 h2 => by
    subst h1; subst h2
    simp [Lax2, all2, Lax1, Lax0]
  refine ⟨⟨fun h => ?_, fun h => ⟨⟨rfl⟩, ⟨[], [], 0, false, -1, 0⟩, ⟨rfl, rfl⟩, ⟨⟨rfl, rfl⟩, rfl, rfl⟩, ?_⟩⟩, fun x hx => ⟨fun h => ?_, fun h => ⟨⟨⟨rfl, rfl⟩, bs, rfl, ?_, ?_, ?_⟩, fun hk => ?_, fun hk => ⟨fun he => ?_, fun he => ⟨fun h4 => ?_, fun h4 => ⟨fun h0 => ?_, fun h0 => ?_⟩⟩⟩⟩⟩, fun x hx => ?_⟩
  · rw [if_neg (by omega)]
    exact ⟨by simp [Lax2, all2, Lax1, Lax0], rfl⟩
  · refine ⟨by omega, Nat.le_refl _, Nat.zero_le _, rfl, rfl, by simp, by simp⟩
  · obtain ⟨h01, h02, h1, h2, h3, h4, h5⟩ := hx
    have hp : x.p = bs.length := by omega
    rw [if_pos h01]
    have hd : bs.drop x.p = [] := by rw [hp]; simp
    rw [hd, scan_nil] at h2 h3
    simp only [List.append_nil] at h2 h3
    refine ⟨by omega, lx ?_ ?_, rfl⟩
    · simp only [toksL, List.map_append, List.map_cons, List.map_nil, ← h2, ← hp]; rfl
    · simp only [probsL, ← h3]
  · have := hx.small; omega
  · omega
  · have := hx.p; omega
  · have hp : x.p < bs.length := by have := hx.p; omega
    have hu : (piece (bs.drop x.p)).2.2 = 80 := by
      cases hd : bs.drop x.p with
      | nil => exact absurd hd (drop_ne hp)
      | cons c t => rw [hd] at hk; exact (piece_un hk).2
    exact ⟨{ x with code := 80 }, ⟨rfl, rfl, hu⟩, ⟨⟨rfl, rfl⟩, rfl, rfl⟩, ⟨⟨hx.small, hx.len, hx.p, hx.l, hx.b, hx.st, hx.lt⟩, hp, hk, rfl⟩, by simp only; omega⟩
  · have hp : x.p < bs.length := by have := hx.p; omega
    have hn := next_le hp
    have hpb : pbOf (bs.drop x.p) x.p x.adj = [⟨x.p, (piece (bs.drop x.p)).2.2⟩] := by simp only [pbOf, if_neg hk, if_neg he]
    have htk : tkOf (bs.drop x.p) x.p = [] := by simp [tkOf, he]
    refine ⟨by simp; omega, nextX bs x, ⟨by simp only [nextX, htk, List.append_nil], rfl⟩, ⟨⟨?_, by simp only [nextX]; omega⟩, by simp only [nextX, htk, List.append_nil], ?_⟩, inv_next hx hp hk, by simp only [nextX]; omega⟩
    · simp only [nextX, hpb, take32]
      split
      · simp only [List.map_append, List.map_cons, List.map_nil]; rfl
      · rfl
    · simp only [nextX, hpb, take32]
      split <;> simp
  · have hp : x.p < bs.length := by have := hx.p; omega
    have hn := next_le hp
    have h2 := piece_four h4
    have hpb : pbOf (bs.drop x.p) x.p x.adj = [] := by simp only [pbOf, if_neg hk, if_pos he]
    have htk : tkOf (bs.drop x.p) x.p = [⟨(piece (bs.drop x.p)).1, txtOf (bs.drop x.p), x.p⟩] := by simp only [tkOf]; rw [if_pos ⟨hk, he, by omega⟩]
    have hsm := hx.small
    have hln := hx.len
    rw [wrap64_in (n := (x.p : Int) + 1) (by omega) (by omega), wrap64_in (n := (x.p : Int) + (piece (bs.drop x.p)).2.1 - 1) (by omega) (by omega)]
    rw [show ((x.p : Int) + 1).toNat = x.p + 1 by omega, show ((x.p : Int) + (piece (bs.drop x.p)).2.1 - 1).toNat = x.p + (piece (bs.drop x.p)).2.1 - 1 by omega, drop_take_bytes, txt4 h4, mapByte]
    refine ⟨by omega, by omega, by omega, _, rfl, by omega, nextX bs x, ⟨?_, rfl⟩, ⟨⟨by simp only [nextX, hpb, List.append_nil], by simp only [nextX]; omega⟩, by simp only [nextX, htk, List.length_append]; rfl, by simp only [nextX, hpb, List.append_nil]⟩, inv_next hx hp hk, by simp only [nextX]; omega⟩
    simp only [nextX, htk, List.map_append, List.map_cons, List.map_nil]
    rfl
  · have hp : x.p < bs.length := by have := hx.p; omega
    have hn := next_le hp
    have hpb : pbOf (bs.drop x.p) x.p x.adj = [] := by simp only [pbOf, if_neg hk, if_pos he]
    have htk : tkOf (bs.drop x.p) x.p = [⟨(piece (bs.drop x.p)).1, txtOf (bs.drop x.p), x.p⟩] := by simp only [tkOf]; rw [if_pos ⟨hk, he, h0⟩]
    have hsm := hx.small
    have hln := hx.len
    rw [show ((x.p : Int) + (piece (bs.drop x.p)).2.1).toNat = x.p + (piece (bs.drop x.p)).2.1 by omega, drop_take_bytes, txtn h4, mapByte]
    refine ⟨by omega, by omega, by omega, _, rfl, by omega, nextX bs x, ⟨?_, rfl⟩, ⟨⟨by simp only [nextX, hpb, List.append_nil], by simp only [nextX]; omega⟩, by simp only [nextX, htk, List.length_append]; rfl, by simp only [nextX, hpb, List.append_nil]⟩, inv_next hx hp hk, by simp only [nextX]; omega⟩
    simp only [nextX, htk, List.map_append, List.map_cons, List.map_nil]
    rfl
  · have hp : x.p < bs.length := by have := hx.p; omega
    have hn := next_le hp
    have hpb : pbOf (bs.drop x.p) x.p x.adj = [] := by simp only [pbOf, if_neg hk, if_pos he]
    have htk : tkOf (bs.drop x.p) x.p = [] := by simp [tkOf, h0]
    exact ⟨nextX bs x, ⟨by simp only [nextX, htk, List.append_nil], rfl⟩, ⟨⟨by simp only [nextX, hpb, List.append_nil], by simp only [nextX]; omega⟩, by simp only [nextX, htk, List.append_nil], by simp only [nextX, hpb, List.append_nil]⟩, inv_next hx hp hk, by simp only [nextX]; omega⟩
  · obtain ⟨hi, hp, hun, hcode⟩ := hx
    have hsm := hi.small
    have hst := hi.st
    rw [wrap64_in (n := (x.p : Int) - 1) (by omega) (by omega), wrap64_in (n := (x.p : Int) + 1) (by omega) (by omega)]
    have rep : x.adj = false → ((if (List.take 32 x.b).length < 32 then List.map pbA (List.take 32 x.b) ++ [AV.agg [AV.int .i64 x.p, AV.int .i64 x.code]] else List.map pbA (List.take 32 x.b)) = List.map pbA (List.take 32 (oddX bs x).b) ∧ (if (List.take 32 x.b).length < 32 then (List.take 32 x.b).length + 1 else (List.take 32 x.b).length) = (List.take 32 (oddX bs x).b).length) := fun ha => by
      have hpb : pbOf (bs.drop x.p) x.p x.adj = [⟨x.p, 80⟩] := by simp only [pbOf, if_pos hun, ha]; rfl
      simp only [oddX, hpb, take32, hcode]
      constructor
      · split
        · simp only [List.map_append, List.map_cons, List.map_nil]; rfl
        · rfl
      · split <;> simp
    refine ⟨fun h => ?_, fun h => ⟨fun h0 => ?_, fun h0 => ?_⟩⟩
    · have ha : x.adj = false := by
        cases ha : x.adj with
        | false => rfl
        | true => exact absurd (hst.1 ha).1 (by omega)
      exact ⟨by simp; omega, oddX bs x, ⟨rfl, rfl⟩, ⟨⟨(rep ha).1, by simp only [oddX]; omega⟩, rfl, (rep ha).2⟩, inv_odd hi hp hun, by simp only [oddX]; omega⟩
    · have ha : x.adj = false := by
        cases ha : x.adj with
        | false => rfl
        | true => exact absurd (hst.1 ha).2 (by omega)
      exact ⟨by simp; omega, oddX bs x, ⟨rfl, rfl⟩, ⟨⟨(rep ha).1, by simp only [oddX]; omega⟩, rfl, (rep ha).2⟩, inv_odd hi hp hun, by simp only [oddX]; omega⟩
    · have ha : x.adj = true := hst.2 ⟨by omega, by omega⟩
      have hpb : pbOf (bs.drop x.p) x.p x.adj = [] := by simp only [pbOf, if_pos hun, ha]; rfl
      exact ⟨oddX bs x, ⟨rfl, rfl⟩, ⟨⟨by simp only [oddX, hpb, List.append_nil], by simp only [oddX]; omega⟩, rfl, by simp only [oddX, hpb, List.append_nil]⟩, inv_odd hi hp hun, by simp only [oddX]; omega⟩
end Go.Abs
